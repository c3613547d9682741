/- Part 9 of the lemmas that a proof leans on; no claim is made here. By an AI agent. -/
import Derived.Test.YtofhodpdfbnkiaaGreatLfA07
section
set_option linter.unusedVariables false
set_option maxRecDepth 100000
set_option maxHeartbeats 4000000
namespace Go.Lf
open Go Go.Proofs
/-! ### (*lessor/disk.Disk).Crash: function 20 -/
def B20 (p1 : Option Addr) (x2 : Int) (w3 : World) (Rt : Value → World → Prop) (E : List PanicEntry → World → Prop) : Prop :=
  (fun w4 : World => nn p1 fun q5 => ∃ (a6 : Option Addr) (n7 : Nat) (c8 : Nat), w4.cell? (q5.add 1) = some (.slice a6 n7 c8) ∧ nn p1 fun q9 => ∃ (x10 : Int), w4.cell? (q9.add 2) = some (.int .i64 x10) ∧ (fun w11 : World => nn p1 fun q12 => ∃ (a13 : Option Addr) (n14 : Nat) (c15 : Nat), w11.cell? (q12.add 1) = some (.slice a13 n14 c15) ∧ nn p1 fun q16 => ∃ (x17 : Int), w11.cell? (q16.add 2) = some (.int .i64 x17) ∧ need (decide ((0 : Int) ≤ (IntKind.i64.wrap (x17 + (if (IntKind.i64.wrap ((n7 : Int) - x10)) < (if (0 : Int) > x2 then (0 : Int) else x2) then (IntKind.i64.wrap ((n7 : Int) - x10)) else (if (0 : Int) > x2 then (0 : Int) else x2))))) && decide ((IntKind.i64.wrap (x17 + (if (IntKind.i64.wrap ((n7 : Int) - x10)) < (if (0 : Int) > x2 then (0 : Int) else x2) then (IntKind.i64.wrap ((n7 : Int) - x10)) else (if (0 : Int) > x2 then (0 : Int) else x2)))) ≤ (c15 : Int))) (need (true && decide ((0 : Int) ≤ (IntKind.i64.wrap (x17 + (if (IntKind.i64.wrap ((n7 : Int) - x10)) < (if (0 : Int) > x2 then (0 : Int) else x2) then (IntKind.i64.wrap ((n7 : Int) - x10)) else (if (0 : Int) > x2 then (0 : Int) else x2)))))) ((∃ (a18 : Option Addr) (n19 : Nat) (c20 : Nat), ∃ w21 : World, Sem.run Cz.P (Instr.buildSlice 56 1 #[(0, (.slice (slA a13 0 c15 1) (((IntKind.i64.wrap (x17 + (if (IntKind.i64.wrap ((n7 : Int) - x10)) < (if (0 : Int) > x2 then (0 : Int) else x2) then (IntKind.i64.wrap ((n7 : Int) - x10)) else (if (0 : Int) > x2 then (0 : Int) else x2))))).toNat - 0) (c15 - 0)))]) w11 = .ok (.slice a18 n19 c20) w21 ∧ (True) ∧ (Calls Cz.P 35 #[(.slice a18 n19 c20)] w21 (CP (fun r26 w25 => ∃ (a22 : Option Addr) (n23 : Nat) (c24 : Nat), r26 = (.slice a22 n23 c24) ∧ (True) ∧ nn p1 fun q27 => (st w25 (q27.add 1) (.slice a22 n23 c24) fun w28 => nn p1 fun q29 => ∃ (a30 : Option Addr) (n31 : Nat) (c32 : Nat), w28.cell? (q29.add 1) = some (.slice a30 n31 c32) ∧ nn p1 fun q33 => st w28 (q33.add 2) (.int .i64 (n31 : Int)) fun w34 => nn p1 fun q35 => st w34 (q35.add 3) (.int .i64 (-1)) fun w36 => Rt (.tuple #[]) w36)) (fun _ _ => False))))))) (w4.drew)) (w3.drew)
def A20 : Ann := fun _ => []
theorem B20_eq (p1 : Option Addr) (x2 : Int) (w3 : World) (Rt : Value → World → Prop) (E : List PanicEntry → World → Prop) : vFn Cz A20 Tryz.f20.results.toList (bodyOf Tryz.f20) (startFr Tryz.f20.ntmps [(.pointer p1), (.int .i64 x2)]) w3 (CP Rt E) = B20 p1 x2 w3 Rt E := by kernel_rfl
theorem C20 {p1 : Option Addr} {x2 : Int} {w3 : World} {Rt : Value → World → Prop} {E : List PanicEntry → World → Prop} (h : B20 p1 x2 w3 Rt E) : Calls Cz.P 20 #[(.pointer p1), (.int .i64 x2)] w3 (CP Rt E) := calls_of_B (C := Cz) Cz.ok Tryz.func20 (by kernel_rfl) (B20_eq p1 x2 w3 Rt E) h


end Go.Lf
end

section
set_option linter.unusedVariables false
set_option maxRecDepth 100000
set_option maxHeartbeats 4000000
namespace Go.Lf
open Go Go.Proofs
/-! ### (*lessor/store.Store).Table: function 21 -/
def B21 (p1 : Option Addr) (w2 : World) (Rt : Value → World → Prop) (E : List PanicEntry → World → Prop) : Prop :=
  nn p1 fun q3 => ∃ (p4 : Option Addr), w2.cell? (q3.add 1) = some (.pointer p4) ∧ Rt (.pointer p4) w2
def A21 : Ann := fun _ => []
theorem B21_eq (p1 : Option Addr) (w2 : World) (Rt : Value → World → Prop) (E : List PanicEntry → World → Prop) : vFn Cz A21 Tryz.f21.results.toList (bodyOf Tryz.f21) (startFr Tryz.f21.ntmps [(.pointer p1)]) w2 (CP Rt E) = B21 p1 w2 Rt E := by kernel_rfl
theorem C21 {p1 : Option Addr} {w2 : World} {Rt : Value → World → Prop} {E : List PanicEntry → World → Prop} (h : B21 p1 w2 Rt E) : Calls Cz.P 21 #[(.pointer p1)] w2 (CP Rt E) := calls_of_B (C := Cz) Cz.ok Tryz.func21 (by kernel_rfl) (B21_eq p1 w2 Rt E) h


end Go.Lf
end

section
set_option linter.unusedVariables false
set_option maxRecDepth 100000
set_option maxHeartbeats 4000000
namespace Go.Lf
open Go Go.Proofs
/-! ### (*lessor/table.Table).All: function 22 -/
def B22 (p1 : Option Addr) (w2 : World) (Rt : Value → World → Prop) (E : List PanicEntry → World → Prop) : Prop :=
  Calls Cz.P 55 #[(.pointer p1), (.func (.func 56) #[] #[])] w2 (CP (fun r5 w4 => ∃ (v3 : Value), r5 = v3 ∧ Calls Cz.P 54 #[v3, (.func (.func 57) #[] #[])] w4 (CP (fun r10 w9 => ∃ (a6 : Option Addr) (n7 : Nat) (c8 : Nat), r10 = (.slice a6 n7 c8) ∧ Rt (.slice a6 n7 c8) w9) E)) E)
def A22 : Ann := fun _ => []
theorem B22_eq (p1 : Option Addr) (w2 : World) (Rt : Value → World → Prop) (E : List PanicEntry → World → Prop) : vFn Cz A22 Tryz.f22.results.toList (bodyOf Tryz.f22) (startFr Tryz.f22.ntmps [(.pointer p1)]) w2 (CP Rt E) = B22 p1 w2 Rt E := by kernel_rfl
theorem C22 {p1 : Option Addr} {w2 : World} {Rt : Value → World → Prop} {E : List PanicEntry → World → Prop} (h : B22 p1 w2 Rt E) : Calls Cz.P 22 #[(.pointer p1)] w2 (CP Rt E) := calls_of_B (C := Cz) Cz.ok Tryz.func22 (by kernel_rfl) (B22_eq p1 w2 Rt E) h


end Go.Lf
end

section
set_option linter.unusedVariables false
set_option maxRecDepth 100000
set_option maxHeartbeats 4000000
namespace Go.Lf
open Go Go.Proofs
/-! ### (*lessor/store.Store).State: function 23 -/
def B23 (p1 : Option Addr) (w2 : World) (Rt : Value → World → Prop) (E : List PanicEntry → World → Prop) : Prop :=
  nn p1 fun q3 => ∃ (x4 : Int), w2.cell? (q3.add 2) = some (.int .i64 x4) ∧ Rt (.int .i64 x4) w2
def A23 : Ann := fun _ => []
theorem B23_eq (p1 : Option Addr) (w2 : World) (Rt : Value → World → Prop) (E : List PanicEntry → World → Prop) : vFn Cz A23 Tryz.f23.results.toList (bodyOf Tryz.f23) (startFr Tryz.f23.ntmps [(.pointer p1)]) w2 (CP Rt E) = B23 p1 w2 Rt E := by kernel_rfl
theorem C23 {p1 : Option Addr} {w2 : World} {Rt : Value → World → Prop} {E : List PanicEntry → World → Prop} (h : B23 p1 w2 Rt E) : Calls Cz.P 23 #[(.pointer p1)] w2 (CP Rt E) := calls_of_B (C := Cz) Cz.ok Tryz.func23 (by kernel_rfl) (B23_eq p1 w2 Rt E) h


end Go.Lf
end

section
set_option linter.unusedVariables false
set_option maxRecDepth 100000
set_option maxHeartbeats 4000000
namespace Go.Lf
open Go Go.Proofs
/-! ### (*lessor/store.Store).Life: function 24 -/
def B24 (p1 : Option Addr) (w2 : World) (Rt : Value → World → Prop) (E : List PanicEntry → World → Prop) : Prop :=
  nn p1 fun q3 => ∃ (x4 : Int), w2.cell? (q3.add 3) = some (.int .i64 x4) ∧ Rt (.int .i64 x4) w2
def A24 : Ann := fun _ => []
theorem B24_eq (p1 : Option Addr) (w2 : World) (Rt : Value → World → Prop) (E : List PanicEntry → World → Prop) : vFn Cz A24 Tryz.f24.results.toList (bodyOf Tryz.f24) (startFr Tryz.f24.ntmps [(.pointer p1)]) w2 (CP Rt E) = B24 p1 w2 Rt E := by kernel_rfl
theorem C24 {p1 : Option Addr} {w2 : World} {Rt : Value → World → Prop} {E : List PanicEntry → World → Prop} (h : B24 p1 w2 Rt E) : Calls Cz.P 24 #[(.pointer p1)] w2 (CP Rt E) := calls_of_B (C := Cz) Cz.ok Tryz.func24 (by kernel_rfl) (B24_eq p1 w2 Rt E) h


end Go.Lf
end

section
set_option linter.unusedVariables false
set_option maxRecDepth 100000
set_option maxHeartbeats 4000000
namespace Go.Lf
open Go Go.Proofs
/-! ### (*lessor/store.Store).Compact: function 25 -/
def B25_j1 (J29 : List Value → World → Prop) (m30 : List Value → World → Nat) (a31 : Option Addr) (n32 : Nat) (c33 : Nat) (x34 : Int) (w35 : World) (a96 : Option Addr) (n97 : Nat) (c98 : Nat) (w99 : World) : Prop :=
  J29 [(.slice a96 n97 c98), (.int .i64 (IntKind.i64.wrap (x34 + 1)))] w99 ∧ m30 [(.slice a96 n97 c98), (.int .i64 (IntKind.i64.wrap (x34 + 1)))] w99 < m30 [(.slice a31 n32 c33), (.int .i64 x34)] w35
def B25_l1 (Rt : Value → World → Prop) (E : List PanicEntry → World → Prop) (p1 : Option Addr) (a24 : Option Addr) (n25 : Nat) (J29 : List Value → World → Prop) (m30 : List Value → World → Nat) (a31 : Option Addr) (n32 : Nat) (c33 : Nat) (x34 : Int) (w35 : World) : Prop :=
  ifB (decide (x34 < (n25 : Int))) (need (decide (0 ≤ x34) && decide (x34 < (n25 : Int))) (nn a24 fun q36 => ∃ (x37 : Int) (x38 : Int) (s39 : ByteArray) (x40 : Int) (x41 : Int) (x42 : Int) (x43 : Int) (x44 : Int), (w35.cell? (q36.add ((x34).toNat * 8)) = some (.int .u32 x37) ∧ w35.cell? ((q36.add ((x34).toNat * 8)).add 1) = some (.int .i64 x38) ∧ w35.cell? ((q36.add ((x34).toNat * 8)).add 2) = some (.string s39) ∧ w35.cell? ((q36.add ((x34).toNat * 8)).add 3) = some (.int .i64 x40) ∧ w35.cell? ((q36.add ((x34).toNat * 8)).add 4) = some (.int .i64 x41) ∧ w35.cell? ((q36.add ((x34).toNat * 8)).add 5) = some (.int .i64 x42) ∧ w35.cell? ((q36.add ((x34).toNat * 8)).add 6) = some (.int .i64 x43) ∧ w35.cell? ((q36.add ((x34).toNat * 8)).add 7) = some (.int .i64 x44) ∧ True) ∧ nw w35 (.cells #[(.int .u32 0), (.int .i64 0), (.string ⟨#[]⟩), (.int .i64 0), (.int .i64 0), (.int .i64 0), (.int .i64 0), (.int .i64 0)] 49) fun k45 w46 => st w46 ⟨k45, 0, none⟩ (.int .u32 x37) fun w47 => st w47 ⟨k45, 1, none⟩ (.int .i64 x38) fun w48 => st w48 ⟨k45, 2, none⟩ (.string s39) fun w49 => st w49 ⟨k45, 3, none⟩ (.int .i64 x40) fun w50 => st w50 ⟨k45, 4, none⟩ (.int .i64 x41) fun w51 => st w51 ⟨k45, 5, none⟩ (.int .i64 x42) fun w52 => st w52 ⟨k45, 6, none⟩ (.int .i64 x43) fun w53 => st w53 ⟨k45, 7, none⟩ (.int .i64 x44) fun w54 => (fun w55 : World => ∃ (x56 : Int) (x57 : Int) (s58 : ByteArray) (x59 : Int) (x60 : Int) (x61 : Int) (x62 : Int) (x63 : Int), (w55.cell? ⟨k45, 0, none⟩ = some (.int .u32 x56) ∧ w55.cell? ⟨k45, 1, none⟩ = some (.int .i64 x57) ∧ w55.cell? ⟨k45, 2, none⟩ = some (.string s58) ∧ w55.cell? ⟨k45, 3, none⟩ = some (.int .i64 x59) ∧ w55.cell? ⟨k45, 4, none⟩ = some (.int .i64 x60) ∧ w55.cell? ⟨k45, 5, none⟩ = some (.int .i64 x61) ∧ w55.cell? ⟨k45, 6, none⟩ = some (.int .i64 x62) ∧ w55.cell? ⟨k45, 7, none⟩ = some (.int .i64 x63) ∧ True) ∧ ∃ (x64 : Int), w55.cell? ⟨k45, 0, none⟩ = some (.int .u32 x64) ∧ (Calls Cz.P 60 #[(.int .u32 x64), (.int .i64 0), (.int .i64 0)] w55 (CP (fun r74 w73 => ∃ (x65 : Int) (x66 : Int) (s67 : ByteArray) (x68 : Int) (x69 : Int) (x70 : Int) (x71 : Int) (x72 : Int), r74 = (.agg #[(.int .u32 x65), (.int .i64 x66), (.string s67), (.int .i64 x68), (.int .i64 x69), (.int .i64 x70), (.int .i64 x71), (.int .i64 x72)]) ∧ ((w73.cell? ⟨k45, 0, none⟩ = w55.cell? ⟨k45, 0, none⟩ ∧ w73.cell? ⟨k45, 1, none⟩ = w55.cell? ⟨k45, 1, none⟩ ∧ w73.cell? ⟨k45, 2, none⟩ = w55.cell? ⟨k45, 2, none⟩ ∧ w73.cell? ⟨k45, 3, none⟩ = w55.cell? ⟨k45, 3, none⟩ ∧ w73.cell? ⟨k45, 4, none⟩ = w55.cell? ⟨k45, 4, none⟩ ∧ w73.cell? ⟨k45, 5, none⟩ = w55.cell? ⟨k45, 5, none⟩ ∧ w73.cell? ⟨k45, 6, none⟩ = w55.cell? ⟨k45, 6, none⟩ ∧ w73.cell? ⟨k45, 7, none⟩ = w55.cell? ⟨k45, 7, none⟩ ∧ True) ∧ True) ∧ ifB (!((x56 == x65) && ((x57 == x66) && ((s58.toList == s67.toList) && ((x59 == x68) && ((x60 == x69) && ((x61 == x70) && ((x62 == x71) && ((x63 == x72) && true))))))))) (∃ (x75 : Int) (x76 : Int) (s77 : ByteArray) (x78 : Int) (x79 : Int) (x80 : Int) (x81 : Int) (x82 : Int), (w73.cell? ⟨k45, 0, none⟩ = some (.int .u32 x75) ∧ w73.cell? ⟨k45, 1, none⟩ = some (.int .i64 x76) ∧ w73.cell? ⟨k45, 2, none⟩ = some (.string s77) ∧ w73.cell? ⟨k45, 3, none⟩ = some (.int .i64 x78) ∧ w73.cell? ⟨k45, 4, none⟩ = some (.int .i64 x79) ∧ w73.cell? ⟨k45, 5, none⟩ = some (.int .i64 x80) ∧ w73.cell? ⟨k45, 6, none⟩ = some (.int .i64 x81) ∧ w73.cell? ⟨k45, 7, none⟩ = some (.int .i64 x82) ∧ True) ∧ Calls Cz.P 61 #[(.agg #[(.int .u32 x75), (.int .i64 x76), (.string s77), (.int .i64 x78), (.int .i64 x79), (.int .i64 x80), (.int .i64 x81), (.int .i64 x82)])] w73 (CP (fun r87 w86 => ∃ (a83 : Option Addr) (n84 : Nat) (c85 : Nat), r87 = (.slice a83 n84 c85) ∧ ∃ (a88 : Option Addr) (n89 : Nat) (c90 : Nat), ∃ w91 : World, Sem.run Cz.P (Instr.buildSlice 56 1 #[(0, (.slice a83 n84 c85))]) w86 = .ok (.slice a88 n89 c90) w91 ∧ ∃ (a92 : Option Addr) (n93 : Nat) (c94 : Nat), ∃ w95 : World, Sem.run Cz.P (Builtin.append_ #[56, 56] 56 #[(.slice a31 n32 c33), (.slice a88 n89 c90)]) w91 = .ok (.slice a92 n93 c94) w95 ∧ B25_j1 J29 m30 a31 n32 c33 x34 w35 a92 n93 c94 w95) E)) (B25_j1 J29 m30 a31 n32 c33 x34 w35 a31 n32 c33 w73)) (fun _ _ => False)))) (w54.drew))) (nn p1 fun q100 => ∃ (p101 : Option Addr), w35.cell? q100 = some (.pointer p101) ∧ Calls Cz.P 62 #[(.pointer p101), (.slice a31 n32 c33)] w35 (CP (fun r104 w103 => ∃ (x102 : Int), r104 = (.int .i64 x102) ∧ Rt (.int .i64 x102) w103) E))
def B25 (p1 : Option Addr) (w2 : World) (Rt : Value → World → Prop) (E : List PanicEntry → World → Prop) : Prop :=
  (fun w3 : World => nn p1 fun q4 => ∃ (x5 : Int), w3.cell? (q4.add 2) = some (.int .i64 x5) ∧ nn p1 fun q6 => ∃ (x7 : Int), w3.cell? (q6.add 3) = some (.int .i64 x7) ∧ (Calls Cz.P 58 #[(.int .i64 x5)] w3 (CP (fun r12 w11 => ∃ (a8 : Option Addr) (n9 : Nat) (c10 : Nat), r12 = (.slice a8 n9 c10) ∧ ((w11.cell? (q6.add 3) = w3.cell? (q6.add 3) ∧ True) ∧ True) ∧ (Calls Cz.P 59 #[(.int .i64 x7)] w11 (CP (fun r17 w16 => ∃ (a13 : Option Addr) (n14 : Nat) (c15 : Nat), r17 = (.slice a13 n14 c15) ∧ (∃ (a18 : Option Addr) (n19 : Nat) (c20 : Nat), ∃ w21 : World, Sem.run Cz.P (Instr.buildSlice 56 2 #[(0, (.slice a8 n9 c10)), (1, (.slice a13 n14 c15))]) w16 = .ok (.slice a18 n19 c20) w21 ∧ nn p1 fun q22 => ∃ (p23 : Option Addr), w21.cell? (q22.add 1) = some (.pointer p23) ∧ Calls Cz.P 22 #[(.pointer p23)] w21 (CP (fun r28 w27 => ∃ (a24 : Option Addr) (n25 : Nat) (c26 : Nat), r28 = (.slice a24 n25 c26) ∧ ∃ (J29 : List Value → World → Prop) (m30 : List Value → World → Nat), J29 [(.slice a18 n19 c20), (.int .i64 0)] w27 ∧ ∀ (a31 : Option Addr) (n32 : Nat) (c33 : Nat) (x34 : Int) (w35 : World), J29 [(.slice a31 n32 c33), (.int .i64 x34)] w35 → B25_l1 Rt E p1 a24 n25 J29 m30 a31 n32 c33 x34 w35) E))) (fun _ _ => False)))) (fun _ _ => False)))) (w2.drew)
def A25 : Ann := fun n => match n with | 0 => [(3, .one .sl), (23, .one (.int .i64))] | _ => []
theorem B25_eq (p1 : Option Addr) (w2 : World) (Rt : Value → World → Prop) (E : List PanicEntry → World → Prop) : vFn Cz A25 Tryz.f25.results.toList (bodyOf Tryz.f25) (startFr Tryz.f25.ntmps [(.pointer p1)]) w2 (CP Rt E) = B25 p1 w2 Rt E := by kernel_rfl
theorem C25 {p1 : Option Addr} {w2 : World} {Rt : Value → World → Prop} {E : List PanicEntry → World → Prop} (h : B25 p1 w2 Rt E) : Calls Cz.P 25 #[(.pointer p1)] w2 (CP Rt E) := calls_of_B (C := Cz) Cz.ok Tryz.func25 (by kernel_rfl) (B25_eq p1 w2 Rt E) h


end Go.Lf
end

section
set_option linter.unusedVariables false
set_option maxRecDepth 100000
set_option maxHeartbeats 4000000
namespace Go.Lf
open Go Go.Proofs
/-! ### lessor/lessorref11.Same: function 26 -/
def B26_l1 (Rt : Value → World → Prop) (a1 : Option Addr) (n2 : Nat) (a4 : Option Addr) (n5 : Nat) (J8 : List Value → World → Prop) (m9 : List Value → World → Nat) (x10 : Int) (w11 : World) : Prop :=
  ifB (decide (x10 < (n2 : Int))) ((fun w12 : World => need (decide (0 ≤ x10) && decide (x10 < (n2 : Int))) (nn a1 fun q13 => ∃ (x14 : Int) (x15 : Int) (s16 : ByteArray) (x17 : Int) (x18 : Int) (x19 : Int) (x20 : Int) (x21 : Int), (w12.cell? (q13.add ((x10).toNat * 8)) = some (.int .u32 x14) ∧ w12.cell? ((q13.add ((x10).toNat * 8)).add 1) = some (.int .i64 x15) ∧ w12.cell? ((q13.add ((x10).toNat * 8)).add 2) = some (.string s16) ∧ w12.cell? ((q13.add ((x10).toNat * 8)).add 3) = some (.int .i64 x17) ∧ w12.cell? ((q13.add ((x10).toNat * 8)).add 4) = some (.int .i64 x18) ∧ w12.cell? ((q13.add ((x10).toNat * 8)).add 5) = some (.int .i64 x19) ∧ w12.cell? ((q13.add ((x10).toNat * 8)).add 6) = some (.int .i64 x20) ∧ w12.cell? ((q13.add ((x10).toNat * 8)).add 7) = some (.int .i64 x21) ∧ True) ∧ need (decide (0 ≤ x10) && decide (x10 < (n5 : Int))) (nn a4 fun q22 => ∃ (x23 : Int) (x24 : Int) (s25 : ByteArray) (x26 : Int) (x27 : Int) (x28 : Int) (x29 : Int) (x30 : Int), (w12.cell? (q22.add ((x10).toNat * 8)) = some (.int .u32 x23) ∧ w12.cell? ((q22.add ((x10).toNat * 8)).add 1) = some (.int .i64 x24) ∧ w12.cell? ((q22.add ((x10).toNat * 8)).add 2) = some (.string s25) ∧ w12.cell? ((q22.add ((x10).toNat * 8)).add 3) = some (.int .i64 x26) ∧ w12.cell? ((q22.add ((x10).toNat * 8)).add 4) = some (.int .i64 x27) ∧ w12.cell? ((q22.add ((x10).toNat * 8)).add 5) = some (.int .i64 x28) ∧ w12.cell? ((q22.add ((x10).toNat * 8)).add 6) = some (.int .i64 x29) ∧ w12.cell? ((q22.add ((x10).toNat * 8)).add 7) = some (.int .i64 x30) ∧ True) ∧ ifB (!((x14 == x23) && ((x15 == x24) && ((s16.toList == s25.toList) && ((x17 == x26) && ((x18 == x27) && ((x19 == x28) && ((x20 == x29) && ((x21 == x30) && true))))))))) (Rt (.bool false) w12) (J8 [(.int .i64 (IntKind.i64.wrap (x10 + 1)))] w12 ∧ m9 [(.int .i64 (IntKind.i64.wrap (x10 + 1)))] w12 < m9 [(.int .i64 x10)] w11)))) (w11.drew)) (Rt (.bool true) w11)
def B26 (a1 : Option Addr) (n2 : Nat) (c3 : Nat) (a4 : Option Addr) (n5 : Nat) (c6 : Nat) (w7 : World) (Rt : Value → World → Prop) (E : List PanicEntry → World → Prop) : Prop :=
  ifB ((n2 : Int) != (n5 : Int)) (Rt (.bool false) w7) (∃ (J8 : List Value → World → Prop) (m9 : List Value → World → Nat), J8 [(.int .i64 0)] w7 ∧ ∀ (x10 : Int) (w11 : World), J8 [(.int .i64 x10)] w11 → B26_l1 Rt a1 n2 a4 n5 J8 m9 x10 w11)
def A26 : Ann := fun n => match n with | 0 => [(5, .one (.int .i64))] | _ => []
theorem B26_eq (a1 : Option Addr) (n2 : Nat) (c3 : Nat) (a4 : Option Addr) (n5 : Nat) (c6 : Nat) (w7 : World) (Rt : Value → World → Prop) (E : List PanicEntry → World → Prop) : vFn Cz A26 Tryz.f26.results.toList (bodyOf Tryz.f26) (startFr Tryz.f26.ntmps [(.slice a1 n2 c3), (.slice a4 n5 c6)]) w7 (CP Rt E) = B26 a1 n2 c3 a4 n5 c6 w7 Rt E := by kernel_rfl
theorem C26 {a1 : Option Addr} {n2 : Nat} {c3 : Nat} {a4 : Option Addr} {n5 : Nat} {c6 : Nat} {w7 : World} {Rt : Value → World → Prop} {E : List PanicEntry → World → Prop} (h : B26 a1 n2 c3 a4 n5 c6 w7 Rt E) : Calls Cz.P 26 #[(.slice a1 n2 c3), (.slice a4 n5 c6)] w7 (CP Rt E) := calls_of_B (C := Cz) Cz.ok Tryz.func26 (by kernel_rfl) (B26_eq a1 n2 c3 a4 n5 c6 w7 Rt E) h


end Go.Lf
end

section
set_option linter.unusedVariables false
set_option maxRecDepth 100000
set_option maxHeartbeats 4000000
namespace Go.Lf
open Go Go.Proofs
/-! ### (*lessor/store.Store).Len: function 27 -/
def B27 (p1 : Option Addr) (w2 : World) (Rt : Value → World → Prop) (E : List PanicEntry → World → Prop) : Prop :=
  nn p1 fun q3 => ∃ (p4 : Option Addr), w2.cell? q3 = some (.pointer p4) ∧ Calls Cz.P 63 #[(.pointer p4)] w2 (CP (fun r7 w6 => ∃ (x5 : Int), r7 = (.int .i64 x5) ∧ Rt (.int .i64 x5) w6) E)
def A27 : Ann := fun _ => []
theorem B27_eq (p1 : Option Addr) (w2 : World) (Rt : Value → World → Prop) (E : List PanicEntry → World → Prop) : vFn Cz A27 Tryz.f27.results.toList (bodyOf Tryz.f27) (startFr Tryz.f27.ntmps [(.pointer p1)]) w2 (CP Rt E) = B27 p1 w2 Rt E := by kernel_rfl
theorem C27 {p1 : Option Addr} {w2 : World} {Rt : Value → World → Prop} {E : List PanicEntry → World → Prop} (h : B27 p1 w2 Rt E) : Calls Cz.P 27 #[(.pointer p1)] w2 (CP Rt E) := calls_of_B (C := Cz) Cz.ok Tryz.func27 (by kernel_rfl) (B27_eq p1 w2 Rt E) h


end Go.Lf
end

section
set_option linter.unusedVariables false
set_option maxRecDepth 100000
set_option maxHeartbeats 4000000
namespace Go.Lf
open Go Go.Proofs
/-! ### (*lessor/table.Table).Get: function 28 -/
def B28 (p1 : Option Addr) (x2 : Int) (w3 : World) (Rt : Value → World → Prop) (E : List PanicEntry → World → Prop) : Prop :=
  nw w3 (.cells #[(.int .u32 0), (.int .i64 0), (.string ⟨#[]⟩), (.int .i64 0), (.int .i64 0), (.int .i64 0), (.int .i64 0), (.int .i64 0)] 49) fun k4 w5 => nn p1 fun q6 => ∃ (m7 : Option Nat), w5.cell? q6 = some (.map m7) ∧ ∃ (x8 : Int) (x9 : Int) (s10 : ByteArray) (x11 : Int) (x12 : Int) (x13 : Int) (x14 : Int) (x15 : Int) (b16 : Bool), ∃ w17 : World, Sem.run Cz.P (Instr.lookup 108 (.map m7) (.int .u32 x2) true) w5 = .ok (.tuple #[(.agg #[(.int .u32 x8), (.int .i64 x9), (.string s10), (.int .i64 x11), (.int .i64 x12), (.int .i64 x13), (.int .i64 x14), (.int .i64 x15)]), (.bool b16)]) w17 ∧ nw w17 (.cells #[(.int .u32 0), (.int .i64 0), (.string ⟨#[]⟩), (.int .i64 0), (.int .i64 0), (.int .i64 0), (.int .i64 0), (.int .i64 0)] 49) fun k18 w19 => st w19 ⟨k18, 0, none⟩ (.int .u32 x8) fun w20 => st w20 ⟨k18, 1, none⟩ (.int .i64 x9) fun w21 => st w21 ⟨k18, 2, none⟩ (.string s10) fun w22 => st w22 ⟨k18, 3, none⟩ (.int .i64 x11) fun w23 => st w23 ⟨k18, 4, none⟩ (.int .i64 x12) fun w24 => st w24 ⟨k18, 5, none⟩ (.int .i64 x13) fun w25 => st w25 ⟨k18, 6, none⟩ (.int .i64 x14) fun w26 => st w26 ⟨k18, 7, none⟩ (.int .i64 x15) fun w27 => ifB (!b16) (st w27 ⟨k4, 0, none⟩ (.int .u32 0) fun w28 => st w28 ⟨k4, 1, none⟩ (.int .i64 0) fun w29 => st w29 ⟨k4, 2, none⟩ (.string ⟨#[]⟩) fun w30 => st w30 ⟨k4, 3, none⟩ (.int .i64 0) fun w31 => st w31 ⟨k4, 4, none⟩ (.int .i64 0) fun w32 => st w32 ⟨k4, 5, none⟩ (.int .i64 0) fun w33 => st w33 ⟨k4, 6, none⟩ (.int .i64 0) fun w34 => st w34 ⟨k4, 7, none⟩ (.int .i64 0) fun w35 => ∃ (x36 : Int) (x37 : Int) (s38 : ByteArray) (x39 : Int) (x40 : Int) (x41 : Int) (x42 : Int) (x43 : Int), (w35.cell? ⟨k4, 0, none⟩ = some (.int .u32 x36) ∧ w35.cell? ⟨k4, 1, none⟩ = some (.int .i64 x37) ∧ w35.cell? ⟨k4, 2, none⟩ = some (.string s38) ∧ w35.cell? ⟨k4, 3, none⟩ = some (.int .i64 x39) ∧ w35.cell? ⟨k4, 4, none⟩ = some (.int .i64 x40) ∧ w35.cell? ⟨k4, 5, none⟩ = some (.int .i64 x41) ∧ w35.cell? ⟨k4, 6, none⟩ = some (.int .i64 x42) ∧ w35.cell? ⟨k4, 7, none⟩ = some (.int .i64 x43) ∧ True) ∧ Rt (.tuple #[(.agg #[(.int .u32 x36), (.int .i64 x37), (.string s38), (.int .i64 x39), (.int .i64 x40), (.int .i64 x41), (.int .i64 x42), (.int .i64 x43)]), (.int .i64 4)]) w35) (∃ (x44 : Int) (x45 : Int) (s46 : ByteArray) (x47 : Int) (x48 : Int) (x49 : Int) (x50 : Int) (x51 : Int), (w27.cell? ⟨k18, 0, none⟩ = some (.int .u32 x44) ∧ w27.cell? ⟨k18, 1, none⟩ = some (.int .i64 x45) ∧ w27.cell? ⟨k18, 2, none⟩ = some (.string s46) ∧ w27.cell? ⟨k18, 3, none⟩ = some (.int .i64 x47) ∧ w27.cell? ⟨k18, 4, none⟩ = some (.int .i64 x48) ∧ w27.cell? ⟨k18, 5, none⟩ = some (.int .i64 x49) ∧ w27.cell? ⟨k18, 6, none⟩ = some (.int .i64 x50) ∧ w27.cell? ⟨k18, 7, none⟩ = some (.int .i64 x51) ∧ True) ∧ st w27 ⟨k4, 0, none⟩ (.int .u32 x44) fun w52 => st w52 ⟨k4, 1, none⟩ (.int .i64 x45) fun w53 => st w53 ⟨k4, 2, none⟩ (.string s46) fun w54 => st w54 ⟨k4, 3, none⟩ (.int .i64 x47) fun w55 => st w55 ⟨k4, 4, none⟩ (.int .i64 x48) fun w56 => st w56 ⟨k4, 5, none⟩ (.int .i64 x49) fun w57 => st w57 ⟨k4, 6, none⟩ (.int .i64 x50) fun w58 => st w58 ⟨k4, 7, none⟩ (.int .i64 x51) fun w59 => ∃ (x60 : Int) (x61 : Int) (s62 : ByteArray) (x63 : Int) (x64 : Int) (x65 : Int) (x66 : Int) (x67 : Int), (w59.cell? ⟨k4, 0, none⟩ = some (.int .u32 x60) ∧ w59.cell? ⟨k4, 1, none⟩ = some (.int .i64 x61) ∧ w59.cell? ⟨k4, 2, none⟩ = some (.string s62) ∧ w59.cell? ⟨k4, 3, none⟩ = some (.int .i64 x63) ∧ w59.cell? ⟨k4, 4, none⟩ = some (.int .i64 x64) ∧ w59.cell? ⟨k4, 5, none⟩ = some (.int .i64 x65) ∧ w59.cell? ⟨k4, 6, none⟩ = some (.int .i64 x66) ∧ w59.cell? ⟨k4, 7, none⟩ = some (.int .i64 x67) ∧ True) ∧ Rt (.tuple #[(.agg #[(.int .u32 x60), (.int .i64 x61), (.string s62), (.int .i64 x63), (.int .i64 x64), (.int .i64 x65), (.int .i64 x66), (.int .i64 x67)]), (.int .i64 0)]) w59)
def A28 : Ann := fun _ => []
theorem B28_eq (p1 : Option Addr) (x2 : Int) (w3 : World) (Rt : Value → World → Prop) (E : List PanicEntry → World → Prop) : vFn Cz A28 Tryz.f28.results.toList (bodyOf Tryz.f28) (startFr Tryz.f28.ntmps [(.pointer p1), (.int .u32 x2)]) w3 (CP Rt E) = B28 p1 x2 w3 Rt E := by kernel_rfl
theorem C28 {p1 : Option Addr} {x2 : Int} {w3 : World} {Rt : Value → World → Prop} {E : List PanicEntry → World → Prop} (h : B28 p1 x2 w3 Rt E) : Calls Cz.P 28 #[(.pointer p1), (.int .u32 x2)] w3 (CP Rt E) := calls_of_B (C := Cz) Cz.ok Tryz.func28 (by kernel_rfl) (B28_eq p1 x2 w3 Rt E) h


end Go.Lf
end

section
set_option linter.unusedVariables false
set_option maxRecDepth 100000
set_option maxHeartbeats 4000000
namespace Go.Lf
open Go Go.Proofs
/-! ### (*lessor/store.Store).Put: function 29 -/
def B29 (p1 : Option Addr) (x2 : Int) (x3 : Int) (s4 : ByteArray) (x5 : Int) (x6 : Int) (x7 : Int) (x8 : Int) (x9 : Int) (w10 : World) (Rt : Value → World → Prop) (E : List PanicEntry → World → Prop) : Prop :=
  nw w10 (.cells #[(.int .u32 x2), (.int .i64 x3), (.string s4), (.int .i64 x5), (.int .i64 x6), (.int .i64 x7), (.int .i64 x8), (.int .i64 x9)] 49) fun k11 w12 => ∃ (x13 : Int) (x14 : Int) (s15 : ByteArray) (x16 : Int) (x17 : Int) (x18 : Int) (x19 : Int) (x20 : Int), (w12.cell? ⟨k11, 0, none⟩ = some (.int .u32 x13) ∧ w12.cell? ⟨k11, 1, none⟩ = some (.int .i64 x14) ∧ w12.cell? ⟨k11, 2, none⟩ = some (.string s15) ∧ w12.cell? ⟨k11, 3, none⟩ = some (.int .i64 x16) ∧ w12.cell? ⟨k11, 4, none⟩ = some (.int .i64 x17) ∧ w12.cell? ⟨k11, 5, none⟩ = some (.int .i64 x18) ∧ w12.cell? ⟨k11, 6, none⟩ = some (.int .i64 x19) ∧ w12.cell? ⟨k11, 7, none⟩ = some (.int .i64 x20) ∧ True) ∧ Calls Cz.P 64 #[(.agg #[(.int .u32 x13), (.int .i64 x14), (.string s15), (.int .i64 x16), (.int .i64 x17), (.int .i64 x18), (.int .i64 x19), (.int .i64 x20)])] w12 (CP (fun r23 w22 => ∃ (b21 : Bool), r23 = (.bool b21) ∧ ifB (!b21) (Rt (.int .i64 1) w22) (∃ (J24 : List Value → World → Prop), ((fun w25 : World => nn p1 fun q26 => ∃ (p27 : Option Addr), w25.cell? (q26.add 1) = some (.pointer p27) ∧ ∃ (x28 : Int), w25.cell? ⟨k11, 0, none⟩ = some (.int .u32 x28) ∧ (Calls Cz.P 28 #[(.pointer p27), (.int .u32 x28)] w25 (CP (fun r39 w38 => ∃ (x29 : Int) (x30 : Int) (s31 : ByteArray) (x32 : Int) (x33 : Int) (x34 : Int) (x35 : Int) (x36 : Int) (x37 : Int), r39 = (.tuple #[(.agg #[(.int .u32 x29), (.int .i64 x30), (.string s31), (.int .i64 x32), (.int .i64 x33), (.int .i64 x34), (.int .i64 x35), (.int .i64 x36)]), (.int .i64 x37)]) ∧ (nw w38 (.cells #[(.int .u32 0), (.int .i64 0), (.string ⟨#[]⟩), (.int .i64 0), (.int .i64 0), (.int .i64 0), (.int .i64 0), (.int .i64 0)] 49) fun k40 w41 => (True) ∧ (st w41 ⟨k40, 0, none⟩ (.int .u32 x29) fun w42 => st w42 ⟨k40, 1, none⟩ (.int .i64 x30) fun w43 => st w43 ⟨k40, 2, none⟩ (.string s31) fun w44 => st w44 ⟨k40, 3, none⟩ (.int .i64 x32) fun w45 => st w45 ⟨k40, 4, none⟩ (.int .i64 x33) fun w46 => st w46 ⟨k40, 5, none⟩ (.int .i64 x34) fun w47 => st w47 ⟨k40, 6, none⟩ (.int .i64 x35) fun w48 => st w48 ⟨k40, 7, none⟩ (.int .i64 x36) fun w49 => (True) ∧ J24 [(.int .i64 x37)] w49))) (fun _ _ => False))) ∧ (nw w25 (.cells #[(.int .u32 0), (.int .i64 0), (.string ⟨#[]⟩), (.int .i64 0), (.int .i64 0), (.int .i64 0), (.int .i64 0), (.int .i64 0)] 49) fun k50 w51 => ((w51.cell? ⟨k11, 0, none⟩ = w25.cell? ⟨k11, 0, none⟩ ∧ True) ∧ (w51.cell? (q26.add 1) = w25.cell? (q26.add 1) ∧ True) ∧ True) ∧ (Calls Cz.P 28 #[(.pointer p27), (.int .u32 x28)] w51 (CP (fun r62 w61 => ∃ (x52 : Int) (x53 : Int) (s54 : ByteArray) (x55 : Int) (x56 : Int) (x57 : Int) (x58 : Int) (x59 : Int) (x60 : Int), r62 = (.tuple #[(.agg #[(.int .u32 x52), (.int .i64 x53), (.string s54), (.int .i64 x55), (.int .i64 x56), (.int .i64 x57), (.int .i64 x58), (.int .i64 x59)]), (.int .i64 x60)]) ∧ (st w61 ⟨k50, 0, none⟩ (.int .u32 x52) fun w63 => st w63 ⟨k50, 1, none⟩ (.int .i64 x53) fun w64 => st w64 ⟨k50, 2, none⟩ (.string s54) fun w65 => st w65 ⟨k50, 3, none⟩ (.int .i64 x55) fun w66 => st w66 ⟨k50, 4, none⟩ (.int .i64 x56) fun w67 => st w67 ⟨k50, 5, none⟩ (.int .i64 x57) fun w68 => st w68 ⟨k50, 6, none⟩ (.int .i64 x58) fun w69 => st w69 ⟨k50, 7, none⟩ (.int .i64 x59) fun w70 => (True) ∧ J24 [(.int .i64 x60)] w70)) (fun _ _ => False))))) (w22.drew)) ∧ ∀ (x71 : Int) (w72 : World), J24 [(.int .i64 x71)] w72 → ifB (x71 != 0) (Rt (.int .i64 x71) w72) (∃ (x73 : Int) (x74 : Int) (s75 : ByteArray) (x76 : Int) (x77 : Int) (x78 : Int) (x79 : Int) (x80 : Int), (w72.cell? ⟨k11, 0, none⟩ = some (.int .u32 x73) ∧ w72.cell? ⟨k11, 1, none⟩ = some (.int .i64 x74) ∧ w72.cell? ⟨k11, 2, none⟩ = some (.string s75) ∧ w72.cell? ⟨k11, 3, none⟩ = some (.int .i64 x76) ∧ w72.cell? ⟨k11, 4, none⟩ = some (.int .i64 x77) ∧ w72.cell? ⟨k11, 5, none⟩ = some (.int .i64 x78) ∧ w72.cell? ⟨k11, 6, none⟩ = some (.int .i64 x79) ∧ w72.cell? ⟨k11, 7, none⟩ = some (.int .i64 x80) ∧ True) ∧ Calls Cz.P 61 #[(.agg #[(.int .u32 x73), (.int .i64 x74), (.string s75), (.int .i64 x76), (.int .i64 x77), (.int .i64 x78), (.int .i64 x79), (.int .i64 x80)])] w72 (CP (fun r85 w84 => ∃ (a81 : Option Addr) (n82 : Nat) (c83 : Nat), r85 = (.slice a81 n82 c83) ∧ Calls Cz.P 65 #[(.pointer p1), (.slice a81 n82 c83)] w84 (CP (fun r88 w87 => ∃ (x86 : Int), r88 = (.int .i64 x86) ∧ Rt (.int .i64 x86) w87) E)) E)))) E)
def A29 : Ann := fun n => match n with | 1000003 => [(0, .one .any)] | 2000003 => [(6, .one (.int .i64))] | _ => []
theorem B29_eq (p1 : Option Addr) (x2 : Int) (x3 : Int) (s4 : ByteArray) (x5 : Int) (x6 : Int) (x7 : Int) (x8 : Int) (x9 : Int) (w10 : World) (Rt : Value → World → Prop) (E : List PanicEntry → World → Prop) : vFn Cz A29 Tryz.f29.results.toList (bodyOf Tryz.f29) (startFr Tryz.f29.ntmps [(.pointer p1), (.agg #[(.int .u32 x2), (.int .i64 x3), (.string s4), (.int .i64 x5), (.int .i64 x6), (.int .i64 x7), (.int .i64 x8), (.int .i64 x9)])]) w10 (CP Rt E) = B29 p1 x2 x3 s4 x5 x6 x7 x8 x9 w10 Rt E := by kernel_rfl
theorem C29 {p1 : Option Addr} {x2 : Int} {x3 : Int} {s4 : ByteArray} {x5 : Int} {x6 : Int} {x7 : Int} {x8 : Int} {x9 : Int} {w10 : World} {Rt : Value → World → Prop} {E : List PanicEntry → World → Prop} (h : B29 p1 x2 x3 s4 x5 x6 x7 x8 x9 w10 Rt E) : Calls Cz.P 29 #[(.pointer p1), (.agg #[(.int .u32 x2), (.int .i64 x3), (.string s4), (.int .i64 x5), (.int .i64 x6), (.int .i64 x7), (.int .i64 x8), (.int .i64 x9)])] w10 (CP Rt E) := calls_of_B (C := Cz) Cz.ok Tryz.func29 (by kernel_rfl) (B29_eq p1 x2 x3 s4 x5 x6 x7 x8 x9 w10 Rt E) h


end Go.Lf
end

section
set_option linter.unusedVariables false
set_option maxRecDepth 100000
set_option maxHeartbeats 4000000
namespace Go.Lf
open Go Go.Proofs
/-! ### (*lessor/store.Store).SetLife: function 30 -/
def B30_j1 (Rt : Value → World → Prop) (E : List PanicEntry → World → Prop) (p1 : Option Addr) (x2 : Int) (b4 : Bool) (w5 : World) : Prop :=
  ifB b4 (Rt (.int .i64 1) w5) (Calls Cz.P 59 #[(.int .i64 x2)] w5 (CP (fun r10 w9 => ∃ (a6 : Option Addr) (n7 : Nat) (c8 : Nat), r10 = (.slice a6 n7 c8) ∧ Calls Cz.P 65 #[(.pointer p1), (.slice a6 n7 c8)] w9 (CP (fun r13 w12 => ∃ (x11 : Int), r13 = (.int .i64 x11) ∧ Rt (.int .i64 x11) w12) E)) E))
def B30 (p1 : Option Addr) (x2 : Int) (w3 : World) (Rt : Value → World → Prop) (E : List PanicEntry → World → Prop) : Prop :=
  ifB (decide (x2 < 0)) (B30_j1 Rt E p1 x2 true w3) (B30_j1 Rt E p1 x2 (decide (x2 > 536870912)) w3)
def A30 : Ann := fun _ => []
theorem B30_eq (p1 : Option Addr) (x2 : Int) (w3 : World) (Rt : Value → World → Prop) (E : List PanicEntry → World → Prop) : vFn Cz A30 Tryz.f30.results.toList (bodyOf Tryz.f30) (startFr Tryz.f30.ntmps [(.pointer p1), (.int .i64 x2)]) w3 (CP Rt E) = B30 p1 x2 w3 Rt E := by kernel_rfl
theorem C30 {p1 : Option Addr} {x2 : Int} {w3 : World} {Rt : Value → World → Prop} {E : List PanicEntry → World → Prop} (h : B30 p1 x2 w3 Rt E) : Calls Cz.P 30 #[(.pointer p1), (.int .i64 x2)] w3 (CP Rt E) := calls_of_B (C := Cz) Cz.ok Tryz.func30 (by kernel_rfl) (B30_eq p1 x2 w3 Rt E) h


end Go.Lf
end

section
set_option linter.unusedVariables false
set_option maxRecDepth 100000
set_option maxHeartbeats 4000000
namespace Go.Lf
open Go Go.Proofs
/-! ### (*lessor/store.Store).Sync: function 31 -/
def B31 (p1 : Option Addr) (w2 : World) (Rt : Value → World → Prop) (E : List PanicEntry → World → Prop) : Prop :=
  nn p1 fun q3 => ∃ (p4 : Option Addr), w2.cell? q3 = some (.pointer p4) ∧ nn p4 fun q5 => ∃ (p6 : Option Addr), w2.cell? q5 = some (.pointer p6) ∧ Calls Cz.P 66 #[(.pointer p6)] w2 (CP (fun r9 w8 => ∃ (x7 : Int), r9 = (.int .i64 x7) ∧ Rt (.int .i64 x7) w8) E)
def A31 : Ann := fun _ => []
theorem B31_eq (p1 : Option Addr) (w2 : World) (Rt : Value → World → Prop) (E : List PanicEntry → World → Prop) : vFn Cz A31 Tryz.f31.results.toList (bodyOf Tryz.f31) (startFr Tryz.f31.ntmps [(.pointer p1)]) w2 (CP Rt E) = B31 p1 w2 Rt E := by kernel_rfl
theorem C31 {p1 : Option Addr} {w2 : World} {Rt : Value → World → Prop} {E : List PanicEntry → World → Prop} (h : B31 p1 w2 Rt E) : Calls Cz.P 31 #[(.pointer p1)] w2 (CP Rt E) := calls_of_B (C := Cz) Cz.ok Tryz.func31 (by kernel_rfl) (B31_eq p1 w2 Rt E) h


end Go.Lf
end

section
set_option linter.unusedVariables false
set_option maxRecDepth 100000
set_option maxHeartbeats 4000000
namespace Go.Lf
open Go Go.Proofs
/-! ### (*lessor/store.Store).SetState: function 32 -/
def B32_j1 (Rt : Value → World → Prop) (E : List PanicEntry → World → Prop) (p1 : Option Addr) (x2 : Int) (b4 : Bool) (w5 : World) : Prop :=
  ifB b4 (Rt (.int .i64 1) w5) (Calls Cz.P 58 #[(.int .i64 x2)] w5 (CP (fun r10 w9 => ∃ (a6 : Option Addr) (n7 : Nat) (c8 : Nat), r10 = (.slice a6 n7 c8) ∧ Calls Cz.P 65 #[(.pointer p1), (.slice a6 n7 c8)] w9 (CP (fun r13 w12 => ∃ (x11 : Int), r13 = (.int .i64 x11) ∧ Rt (.int .i64 x11) w12) E)) E))
def B32 (p1 : Option Addr) (x2 : Int) (w3 : World) (Rt : Value → World → Prop) (E : List PanicEntry → World → Prop) : Prop :=
  ifB (decide (x2 < 0)) (B32_j1 Rt E p1 x2 true w3) (B32_j1 Rt E p1 x2 (decide (x2 > 8)) w3)
def A32 : Ann := fun _ => []
theorem B32_eq (p1 : Option Addr) (x2 : Int) (w3 : World) (Rt : Value → World → Prop) (E : List PanicEntry → World → Prop) : vFn Cz A32 Tryz.f32.results.toList (bodyOf Tryz.f32) (startFr Tryz.f32.ntmps [(.pointer p1), (.int .i64 x2)]) w3 (CP Rt E) = B32 p1 x2 w3 Rt E := by kernel_rfl
theorem C32 {p1 : Option Addr} {x2 : Int} {w3 : World} {Rt : Value → World → Prop} {E : List PanicEntry → World → Prop} (h : B32 p1 x2 w3 Rt E) : Calls Cz.P 32 #[(.pointer p1), (.int .i64 x2)] w3 (CP Rt E) := calls_of_B (C := Cz) Cz.ok Tryz.func32 (by kernel_rfl) (B32_eq p1 x2 w3 Rt E) h


end Go.Lf
end

section
set_option linter.unusedVariables false
set_option maxRecDepth 100000
set_option maxHeartbeats 4000000
namespace Go.Lf
open Go Go.Proofs
/-! ### (*lessor/disk.Disk).change: function 33 -/
def B33_j1 (Rt : Value → World → Prop) (E : List PanicEntry → World → Prop) (p1 : Option Addr) (x2 : Int) (v3 : Value) (w13 : World) : Prop :=
  nn p1 fun q14 => ∃ (x15 : Int), w13.cell? q14 = some (.int .i64 x15) ∧ ifB (decide (x2 > x15)) (Rt (.int .i64 3) w13) (vCall Cz v3 [] w13 (CP (fun r17 w16 => r17 = (.tuple #[]) ∧ Rt (.int .i64 0) w16) E))
def B33 (p1 : Option Addr) (x2 : Int) (v3 : Value) (w4 : World) (Rt : Value → World → Prop) (E : List PanicEntry → World → Prop) : Prop :=
  nn p1 fun q5 => ∃ (x6 : Int), w4.cell? (q5.add 3) = some (.int .i64 x6) ∧ ifB (x6 == 0) (Rt (.int .i64 7) w4) (nn p1 fun q7 => ∃ (x8 : Int), w4.cell? (q7.add 3) = some (.int .i64 x8) ∧ ifB (decide (x8 > 0)) (nn p1 fun q9 => ∃ (x10 : Int), w4.cell? (q9.add 3) = some (.int .i64 x10) ∧ nn p1 fun q11 => st w4 (q11.add 3) (.int .i64 (IntKind.i64.wrap (x10 - 1))) fun w12 => B33_j1 Rt E p1 x2 v3 w12) (B33_j1 Rt E p1 x2 v3 w4))
def A33 : Ann := fun _ => []
theorem B33_eq (p1 : Option Addr) (x2 : Int) (v3 : Value) (w4 : World) (Rt : Value → World → Prop) (E : List PanicEntry → World → Prop) : vFn Cz A33 Tryz.f33.results.toList (bodyOf Tryz.f33) (startFr Tryz.f33.ntmps [(.pointer p1), (.int .i64 x2), v3]) w4 (CP Rt E) = B33 p1 x2 v3 w4 Rt E := by kernel_rfl
theorem C33 {p1 : Option Addr} {x2 : Int} {v3 : Value} {w4 : World} {Rt : Value → World → Prop} {E : List PanicEntry → World → Prop} (h : B33 p1 x2 v3 w4 Rt E) : Calls Cz.P 33 #[(.pointer p1), (.int .i64 x2), v3] w4 (CP Rt E) := calls_of_B (C := Cz) Cz.ok Tryz.func33 (by kernel_rfl) (B33_eq p1 x2 v3 w4 Rt E) h


end Go.Lf
end

section
set_option linter.unusedVariables false
set_option maxRecDepth 100000
set_option maxHeartbeats 4000000
namespace Go.Lf
open Go Go.Proofs
/-! ### (*lessor/disk.Disk).Append$1: function 34 -/
def B34 (q1 : Addr) (q2 : Addr) (w3 : World) (Rt : Value → World → Prop) (E : List PanicEntry → World → Prop) : Prop :=
  (fun w4 : World => ∃ (p5 : Option Addr), w4.cell? q1 = some (.pointer p5) ∧ ∃ (p6 : Option Addr), w4.cell? q1 = some (.pointer p6) ∧ nn p6 fun q7 => ∃ (a8 : Option Addr) (n9 : Nat) (c10 : Nat), w4.cell? (q7.add 1) = some (.slice a8 n9 c10) ∧ ∃ (a11 : Option Addr) (n12 : Nat) (c13 : Nat), w4.cell? q2 = some (.slice a11 n12 c13) ∧ (∃ (a14 : Option Addr) (n15 : Nat) (c16 : Nat), ∃ w17 : World, Sem.run Cz.P (Instr.buildSlice 56 2 #[(0, (.slice a8 n9 c10)), (1, (.slice a11 n12 c13))]) w4 = .ok (.slice a14 n15 c16) w17 ∧ ((w17.cell? q1 = w4.cell? q1 ∧ True) ∧ True) ∧ (Calls Cz.P 35 #[(.slice a14 n15 c16)] w17 (CP (fun r22 w21 => ∃ (a18 : Option Addr) (n19 : Nat) (c20 : Nat), r22 = (.slice a18 n19 c20) ∧ ((w21.cell? q1 = w17.cell? q1 ∧ True) ∧ True) ∧ nn p5 fun q23 => (st w21 (q23.add 1) (.slice a18 n19 c20) fun w24 => Rt (.tuple #[]) w24)) (fun _ _ => False))))) (w3.drew)
def A34 : Ann := fun _ => []
theorem B34_eq (q1 : Addr) (q2 : Addr) (w3 : World) (Rt : Value → World → Prop) (E : List PanicEntry → World → Prop) : vFn Cz A34 Tryz.f34.results.toList (bodyOf Tryz.f34) (startFr Tryz.f34.ntmps [(.pointer (some q1)), (.pointer (some q2))]) w3 (CP Rt E) = B34 q1 q2 w3 Rt E := by kernel_rfl
theorem C34 {q1 : Addr} {q2 : Addr} {w3 : World} {Rt : Value → World → Prop} {E : List PanicEntry → World → Prop} (h : B34 q1 q2 w3 Rt E) : Calls Cz.P 34 #[(.pointer (some q1)), (.pointer (some q2))] w3 (CP Rt E) := calls_of_B (C := Cz) Cz.ok Tryz.func34 (by kernel_rfl) (B34_eq q1 q2 w3 Rt E) h


end Go.Lf
end

section
set_option linter.unusedVariables false
set_option maxRecDepth 100000
set_option maxHeartbeats 4000000
namespace Go.Lf
open Go Go.Proofs
/-! ### lessor/disk.own: function 35 -/
def B35_l2 (Rt : Value → World → Prop) (a1 : Option Addr) (n2 : Nat) (a14 : Option Addr) (n15 : Nat) (c16 : Nat) (J18 : List Value → World → Prop) (m19 : List Value → World → Nat) (x20 : Int) (x21 : Int) (w22 : World) : Prop :=
  ifB (decide (x21 < (n2 : Int))) (need (decide (0 ≤ x21) && decide (x21 < (n2 : Int))) (nn a1 fun q23 => ∃ (a24 : Option Addr) (n25 : Nat) (c26 : Nat), w22.cell? (q23.add ((x21).toNat * 1)) = some (.slice a24 n25 c26) ∧ need (decide ((0 : Int) ≤ (n15 : Int)) && decide ((n15 : Int) ≤ (c16 : Int))) (need (decide ((0 : Int) ≤ x20) && decide (x20 ≤ (n15 : Int))) (∃ (x27 : Int), ∃ w28 : World, Sem.run Cz.P (Builtin.copy_ #[22, 22] 3 #[(.slice (slA a14 ((x20).toNat) c16 1) (((n15 : Int)).toNat - (x20).toNat) (c16 - (x20).toNat)), (.slice a24 n25 c26)]) w22 = .ok (.int .i64 x27) w28 ∧ J18 [(.int .i64 (IntKind.i64.wrap (x20 + x27))), (.int .i64 (IntKind.i64.wrap (x21 + 1)))] w28 ∧ m19 [(.int .i64 (IntKind.i64.wrap (x20 + x27))), (.int .i64 (IntKind.i64.wrap (x21 + 1)))] w28 < m19 [(.int .i64 x20), (.int .i64 x21)] w22)))) (Rt (.slice a14 n15 c16) w22)
def B35_l1 (Rt : Value → World → Prop) (a1 : Option Addr) (n2 : Nat) (J5 : List Value → World → Prop) (m6 : List Value → World → Nat) (x7 : Int) (x8 : Int) (w9 : World) : Prop :=
  ifB (decide (x8 < (n2 : Int))) (need (decide (0 ≤ x8) && decide (x8 < (n2 : Int))) (nn a1 fun q10 => ∃ (a11 : Option Addr) (n12 : Nat) (c13 : Nat), w9.cell? (q10.add ((x8).toNat * 1)) = some (.slice a11 n12 c13) ∧ J5 [(.int .i64 (IntKind.i64.wrap (x7 + (n12 : Int)))), (.int .i64 (IntKind.i64.wrap (x8 + 1)))] w9 ∧ m6 [(.int .i64 (IntKind.i64.wrap (x7 + (n12 : Int)))), (.int .i64 (IntKind.i64.wrap (x8 + 1)))] w9 < m6 [(.int .i64 x7), (.int .i64 x8)] w9)) (∃ (a14 : Option Addr) (n15 : Nat) (c16 : Nat), ∃ w17 : World, Sem.run Cz.P (Instr.makeSlice 22 (.int .i64 x7) (.int .i64 x7)) w9 = .ok (.slice a14 n15 c16) w17 ∧ ∃ (J18 : List Value → World → Prop) (m19 : List Value → World → Nat), J18 [(.int .i64 0), (.int .i64 0)] w17 ∧ ∀ (x20 : Int) (x21 : Int) (w22 : World), J18 [(.int .i64 x20), (.int .i64 x21)] w22 → B35_l2 Rt a1 n2 a14 n15 c16 J18 m19 x20 x21 w22)
def B35 (a1 : Option Addr) (n2 : Nat) (c3 : Nat) (w4 : World) (Rt : Value → World → Prop) (E : List PanicEntry → World → Prop) : Prop :=
  ∃ (J5 : List Value → World → Prop) (m6 : List Value → World → Nat), J5 [(.int .i64 0), (.int .i64 0)] w4 ∧ ∀ (x7 : Int) (x8 : Int) (w9 : World), J5 [(.int .i64 x7), (.int .i64 x8)] w9 → B35_l1 Rt a1 n2 J5 m6 x7 x8 w9
def A35 : Ann := fun n => match n with | 0 => [(3, .one (.int .i64)), (12, .one (.int .i64))] | 1 => [(7, .one (.int .i64)), (25, .one (.int .i64))] | _ => []
theorem B35_eq (a1 : Option Addr) (n2 : Nat) (c3 : Nat) (w4 : World) (Rt : Value → World → Prop) (E : List PanicEntry → World → Prop) : vFn Cz A35 Tryz.f35.results.toList (bodyOf Tryz.f35) (startFr Tryz.f35.ntmps [(.slice a1 n2 c3)]) w4 (CP Rt E) = B35 a1 n2 c3 w4 Rt E := by kernel_rfl
theorem C35 {a1 : Option Addr} {n2 : Nat} {c3 : Nat} {w4 : World} {Rt : Value → World → Prop} {E : List PanicEntry → World → Prop} (h : B35 a1 n2 c3 w4 Rt E) : Calls Cz.P 35 #[(.slice a1 n2 c3)] w4 (CP Rt E) := calls_of_B (C := Cz) Cz.ok Tryz.func35 (by kernel_rfl) (B35_eq a1 n2 c3 w4 Rt E) h


end Go.Lf
end

section
set_option linter.unusedVariables false
set_option maxRecDepth 100000
set_option maxHeartbeats 4000000
namespace Go.Lf
open Go Go.Proofs
/-! ### (*lessor/lessorref08.Disk).fails: function 36 -/
def B36_j1 (Rt : Value → World → Prop) (w11 : World) : Prop :=
  Rt (.bool false) w11
def B36 (p1 : Option Addr) (w2 : World) (Rt : Value → World → Prop) (E : List PanicEntry → World → Prop) : Prop :=
  nn p1 fun q3 => ∃ (x4 : Int), w2.cell? (q3.add 3) = some (.int .i64 x4) ∧ ifB (x4 == 0) (Rt (.bool true) w2) (nn p1 fun q5 => ∃ (x6 : Int), w2.cell? (q5.add 3) = some (.int .i64 x6) ∧ ifB (decide (x6 > 0)) (nn p1 fun q7 => ∃ (x8 : Int), w2.cell? (q7.add 3) = some (.int .i64 x8) ∧ nn p1 fun q9 => st w2 (q9.add 3) (.int .i64 (IntKind.i64.wrap (x8 - 1))) fun w10 => B36_j1 Rt w10) (B36_j1 Rt w2))
def A36 : Ann := fun _ => []
theorem B36_eq (p1 : Option Addr) (w2 : World) (Rt : Value → World → Prop) (E : List PanicEntry → World → Prop) : vFn Cz A36 Tryz.f36.results.toList (bodyOf Tryz.f36) (startFr Tryz.f36.ntmps [(.pointer p1)]) w2 (CP Rt E) = B36 p1 w2 Rt E := by kernel_rfl
theorem C36 {p1 : Option Addr} {w2 : World} {Rt : Value → World → Prop} {E : List PanicEntry → World → Prop} (h : B36 p1 w2 Rt E) : Calls Cz.P 36 #[(.pointer p1)] w2 (CP Rt E) := calls_of_B (C := Cz) Cz.ok Tryz.func36 (by kernel_rfl) (B36_eq p1 w2 Rt E) h


end Go.Lf
end
