/- Part 9 of the lemmas that a proof leans on; no claim is made here. By an AI agent. -/
import Derived.Test.YtofhodpdfbnkiaaGreatLfD07
section
set_option linter.unusedVariables false
set_option maxRecDepth 100000
set_option maxHeartbeats 4000000
namespace Go.Lf
open Go Go.Proofs
/-! ### (*lessor/lessorref08.Disk).Append: function 12 -/
def B12 (p1 : Option Addr) (a2 : Option Addr) (n3 : Nat) (c4 : Nat) (w5 : World) (Rt : Value → World → Prop) (E : List PanicEntry → World → Prop) : Prop :=
  Calls Cz.P 36 #[(.pointer p1)] w5 (CP (fun r8 w7 => ∃ (b6 : Bool), r8 = (.bool b6) ∧ ifB b6 (Rt (.int .i64 7) w7) ((fun w9 : World => nn p1 fun q10 => ∃ (a11 : Option Addr) (n12 : Nat) (c13 : Nat), w9.cell? (q10.add 1) = some (.slice a11 n12 c13) ∧ nn p1 fun q14 => ∃ (x15 : Int), w9.cell? q14 = some (.int .i64 x15) ∧ ifB (decide ((IntKind.i64.wrap ((n12 : Int) + (n3 : Int))) > x15)) (Rt (.int .i64 3) w9) (∃ (a16 : Option Addr) (n17 : Nat) (c18 : Nat), ∃ w19 : World, Sem.run Cz.P (Instr.buildSlice 22 0 #[]) w9 = .ok (.slice a16 n17 c18) w19 ∧ nn p1 fun q20 => ∃ (a21 : Option Addr) (n22 : Nat) (c23 : Nat), w19.cell? (q20.add 1) = some (.slice a21 n22 c23) ∧ ∃ (a24 : Option Addr) (n25 : Nat) (c26 : Nat), ∃ w27 : World, Sem.run Cz.P (Builtin.append_ #[22, 22] 22 #[(.slice a16 n17 c18), (.slice a21 n22 c23)]) w19 = .ok (.slice a24 n25 c26) w27 ∧ ∃ (a28 : Option Addr) (n29 : Nat) (c30 : Nat), ∃ w31 : World, Sem.run Cz.P (Builtin.append_ #[22, 22] 22 #[(.slice a24 n25 c26), (.slice a2 n3 c4)]) w27 = .ok (.slice a28 n29 c30) w31 ∧ nn p1 fun q32 => st w31 (q32.add 1) (.slice a28 n29 c30) fun w33 => Rt (.int .i64 0) w33)) (w7.drew))) E)
def A12 : Ann := fun _ => []
theorem B12_eq (p1 : Option Addr) (a2 : Option Addr) (n3 : Nat) (c4 : Nat) (w5 : World) (Rt : Value → World → Prop) (E : List PanicEntry → World → Prop) : vFn Cz A12 Tryz.f12.results.toList (bodyOf Tryz.f12) (startFr Tryz.f12.ntmps [(.pointer p1), (.slice a2 n3 c4)]) w5 (CP Rt E) = B12 p1 a2 n3 c4 w5 Rt E := by kernel_rfl
theorem C12 {p1 : Option Addr} {a2 : Option Addr} {n3 : Nat} {c4 : Nat} {w5 : World} {Rt : Value → World → Prop} {E : List PanicEntry → World → Prop} (h : B12 p1 a2 n3 c4 w5 Rt E) : Calls Cz.P 12 #[(.pointer p1), (.slice a2 n3 c4)] w5 (CP Rt E) := calls_of_B (C := Cz) Cz.ok Tryz.func12 (by kernel_rfl) (B12_eq p1 a2 n3 c4 w5 Rt E) h


end Go.Lf
end

section
set_option linter.unusedVariables false
set_option maxRecDepth 100000
set_option maxHeartbeats 4000000
namespace Go.Lf
open Go Go.Proofs
/-! ### lessor/store.Open: function 13 -/
def B13 (p1 : Option Addr) (a2 : Option Addr) (n3 : Nat) (c4 : Nat) (w5 : World) (Rt : Value → World → Prop) (E : List PanicEntry → World → Prop) : Prop :=
  Calls Cz.P 37 #[(.slice a2 n3 c4)] w5 (CP (fun r9 w8 => ∃ (p6 : Option Addr) (x7 : Int), r9 = (.tuple #[(.pointer p6), (.int .i64 x7)]) ∧ ifB (x7 != 0) (Rt (.tuple #[(.pointer none), (.int .i64 x7)]) w8) (Calls Cz.P 38 #[(.pointer p1)] w8 (CP (fun r13 w12 => ∃ (p10 : Option Addr) (x11 : Int), r13 = (.tuple #[(.pointer p10), (.int .i64 x11)]) ∧ ifB (x11 != 0) (Rt (.tuple #[(.pointer none), (.int .i64 x11)]) w12) (nw w12 (.cells #[(.pointer p10), (.pointer p6), (.int .i64 0), (.int .i64 0)] 81) fun k14 w15 => Calls Cz.P 40 #[(.pointer p10)] w15 (CP (fun r20 w19 => ∃ (a16 : Option Addr) (n17 : Nat) (c18 : Nat), r20 = (.slice a16 n17 c18) ∧ Calls Cz.P 39 #[(.slice a16 n17 c18), (.func (.func 41) #[(.pointer (some ⟨k14, 0, none⟩))] #[])] w19 (CP (fun r22 w21 => r22 = (.tuple #[]) ∧ Rt (.tuple #[(.pointer (some ⟨k14, 0, none⟩)), (.int .i64 0)]) w21) E)) E))) E))) E)
def A13 : Ann := fun _ => []
theorem B13_eq (p1 : Option Addr) (a2 : Option Addr) (n3 : Nat) (c4 : Nat) (w5 : World) (Rt : Value → World → Prop) (E : List PanicEntry → World → Prop) : vFn Cz A13 Tryz.f13.results.toList (bodyOf Tryz.f13) (startFr Tryz.f13.ntmps [(.pointer p1), (.slice a2 n3 c4)]) w5 (CP Rt E) = B13 p1 a2 n3 c4 w5 Rt E := by kernel_rfl
theorem C13 {p1 : Option Addr} {a2 : Option Addr} {n3 : Nat} {c4 : Nat} {w5 : World} {Rt : Value → World → Prop} {E : List PanicEntry → World → Prop} (h : B13 p1 a2 n3 c4 w5 Rt E) : Calls Cz.P 13 #[(.pointer p1), (.slice a2 n3 c4)] w5 (CP Rt E) := calls_of_B (C := Cz) Cz.ok Tryz.func13 (by kernel_rfl) (B13_eq p1 a2 n3 c4 w5 Rt E) h


end Go.Lf
end

section
set_option linter.unusedVariables false
set_option maxRecDepth 100000
set_option maxHeartbeats 4000000
namespace Go.Lf
open Go Go.Proofs
/-! ### lessor/lessorref13.Open: function 14 -/
def B14_l1 (Rt : Value → World → Prop) (E : List PanicEntry → World → Prop) (k14 : Nat) (a16 : Option Addr) (n17 : Nat) (J21 : List Value → World → Prop) (m22 : List Value → World → Nat) (x23 : Int) (w24 : World) : Prop :=
  ifB (decide (x23 < (n17 : Int))) (need (decide (0 ≤ x23) && decide (x23 < (n17 : Int))) (nn a16 fun q25 => ∃ (a26 : Option Addr) (n27 : Nat) (c28 : Nat), w24.cell? (q25.add ((x23).toNat * 1)) = some (.slice a26 n27 c28) ∧ Calls Cz.P 45 #[(.pointer (some ⟨k14, 0, none⟩)), (.slice a26 n27 c28)] w24 (CP (fun r30 w29 => r30 = (.tuple #[]) ∧ J21 [(.int .i64 (IntKind.i64.wrap (x23 + 1)))] w29 ∧ m22 [(.int .i64 (IntKind.i64.wrap (x23 + 1)))] w29 < m22 [(.int .i64 x23)] w24) E))) (Rt (.tuple #[(.pointer (some ⟨k14, 0, none⟩)), (.int .i64 0)]) w24)
def B14 (p1 : Option Addr) (a2 : Option Addr) (n3 : Nat) (c4 : Nat) (w5 : World) (Rt : Value → World → Prop) (E : List PanicEntry → World → Prop) : Prop :=
  Calls Cz.P 42 #[(.slice a2 n3 c4)] w5 (CP (fun r9 w8 => ∃ (p6 : Option Addr) (x7 : Int), r9 = (.tuple #[(.pointer p6), (.int .i64 x7)]) ∧ ifB (x7 != 0) (Rt (.tuple #[(.pointer none), (.int .i64 x7)]) w8) (Calls Cz.P 43 #[(.pointer p1)] w8 (CP (fun r13 w12 => ∃ (p10 : Option Addr) (x11 : Int), r13 = (.tuple #[(.pointer p10), (.int .i64 x11)]) ∧ ifB (x11 != 0) (Rt (.tuple #[(.pointer none), (.int .i64 x11)]) w12) (nw w12 (.cells #[(.pointer p10), (.pointer p6), (.int .i64 0), (.int .i64 0)] 92) fun k14 w15 => Calls Cz.P 44 #[(.pointer p10)] w15 (CP (fun r20 w19 => ∃ (a16 : Option Addr) (n17 : Nat) (c18 : Nat), r20 = (.slice a16 n17 c18) ∧ ∃ (J21 : List Value → World → Prop) (m22 : List Value → World → Nat), J21 [(.int .i64 0)] w19 ∧ ∀ (x23 : Int) (w24 : World), J21 [(.int .i64 x23)] w24 → B14_l1 Rt E k14 a16 n17 J21 m22 x23 w24) E))) E))) E)
def A14 : Ann := fun n => match n with | 0 => [(12, .one (.int .i64))] | _ => []
theorem B14_eq (p1 : Option Addr) (a2 : Option Addr) (n3 : Nat) (c4 : Nat) (w5 : World) (Rt : Value → World → Prop) (E : List PanicEntry → World → Prop) : vFn Cz A14 Tryz.f14.results.toList (bodyOf Tryz.f14) (startFr Tryz.f14.ntmps [(.pointer p1), (.slice a2 n3 c4)]) w5 (CP Rt E) = B14 p1 a2 n3 c4 w5 Rt E := by kernel_rfl
theorem C14 {p1 : Option Addr} {a2 : Option Addr} {n3 : Nat} {c4 : Nat} {w5 : World} {Rt : Value → World → Prop} {E : List PanicEntry → World → Prop} (h : B14 p1 a2 n3 c4 w5 Rt E) : Calls Cz.P 14 #[(.pointer p1), (.slice a2 n3 c4)] w5 (CP Rt E) := calls_of_B (C := Cz) Cz.ok Tryz.func14 (by kernel_rfl) (B14_eq p1 a2 n3 c4 w5 Rt E) h


end Go.Lf
end

section
set_option linter.unusedVariables false
set_option maxRecDepth 100000
set_option maxHeartbeats 4000000
namespace Go.Lf
open Go Go.Proofs
/-! ### lessor/lessorlaw13.alike: function 15 -/
def B15 (p1 : Option Addr) (p2 : Option Addr) (w3 : World) (Rt : Value → World → Prop) (E : List PanicEntry → World → Prop) : Prop :=
  (fun w4 : World => nn p2 fun q5 => ∃ (p6 : Option Addr), w4.cell? (q5.add 1) = some (.pointer p6) ∧ nn p6 fun q7 => ∃ (a8 : Option Addr) (n9 : Nat) (c10 : Nat), w4.cell? q7 = some (.slice a8 n9 c10) ∧ (Calls Cz.P 21 #[(.pointer p1)] w4 (CP (fun r13 w12 => ∃ (p11 : Option Addr), r13 = (.pointer p11) ∧ ((w12.cell? q7 = w4.cell? q7 ∧ True) ∧ (w12.cell? (q5.add 1) = w4.cell? (q5.add 1) ∧ True) ∧ True) ∧ (Calls Cz.P 22 #[(.pointer p11)] w12 (CP (fun r18 w17 => ∃ (a14 : Option Addr) (n15 : Nat) (c16 : Nat), r18 = (.slice a14 n15 c16) ∧ ((w17.cell? q7 = w12.cell? q7 ∧ True) ∧ (w17.cell? (q5.add 1) = w12.cell? (q5.add 1) ∧ True) ∧ True) ∧ (Calls Cz.P 26 #[(.slice a14 n15 c16), (.slice a8 n9 c10)] w17 (CP (fun r21 w20 => ∃ (b19 : Bool), r21 = (.bool b19) ∧ ∃ (J22 : List Value → World → Prop), ((fun w23 : World => ifB b19 (nn p2 fun q24 => ∃ (x25 : Int), w23.cell? (q24.add 2) = some (.int .i64 x25) ∧ (Calls Cz.P 23 #[(.pointer p1)] w23 (CP (fun r28 w27 => ∃ (x26 : Int), r28 = (.int .i64 x26) ∧ ((w27.cell? (q24.add 2) = w23.cell? (q24.add 2) ∧ True) ∧ True) ∧ ifB (x26 == x25) (nn p2 fun q29 => ∃ (x30 : Int), w27.cell? (q29.add 3) = some (.int .i64 x30) ∧ (Calls Cz.P 24 #[(.pointer p1)] w27 (CP (fun r33 w32 => ∃ (x31 : Int), r33 = (.int .i64 x31) ∧ ((w32.cell? (q29.add 3) = w27.cell? (q29.add 3) ∧ True) ∧ True) ∧ ifB (x31 == x30) (nn p2 fun q34 => ∃ (p35 : Option Addr), w32.cell? q34 = some (.pointer p35) ∧ (Calls Cz.P 27 #[(.pointer p1)] w32 (CP (fun r38 w37 => ∃ (x36 : Int), r38 = (.int .i64 x36) ∧ ((w37.cell? q34 = w32.cell? q34 ∧ True) ∧ True) ∧ (Calls Cz.P 44 #[(.pointer p35)] w37 (CP (fun r43 w42 => ∃ (a39 : Option Addr) (n40 : Nat) (c41 : Nat), r43 = (.slice a39 n40 c41) ∧ J22 [(.bool (x36 == (n40 : Int)))] w42) (fun _ _ => False)))) (fun _ _ => False)))) (((True) ∧ (J22 [(.bool false)] w32)))) (fun _ _ => False)))) (((True) ∧ ((True) ∧ (J22 [(.bool false)] w27))))) (fun _ _ => False)))) (((True) ∧ ((True) ∧ ((True) ∧ (J22 [(.bool false)] w23)))))) (w20.drew)) ∧ ∀ (b44 : Bool) (w45 : World), J22 [(.bool b44)] w45 → Rt (.bool b44) w45) (fun _ _ => False)))) (fun _ _ => False)))) (fun _ _ => False)))) (w3.drew)
def A15 : Ann := fun n => match n with | 1000002 => [(0, .one .any)] | 2000002 => [(4, .one .bool)] | _ => []
theorem B15_eq (p1 : Option Addr) (p2 : Option Addr) (w3 : World) (Rt : Value → World → Prop) (E : List PanicEntry → World → Prop) : vFn Cz A15 Tryz.f15.results.toList (bodyOf Tryz.f15) (startFr Tryz.f15.ntmps [(.pointer p1), (.pointer p2)]) w3 (CP Rt E) = B15 p1 p2 w3 Rt E := by kernel_rfl
theorem C15 {p1 : Option Addr} {p2 : Option Addr} {w3 : World} {Rt : Value → World → Prop} {E : List PanicEntry → World → Prop} (h : B15 p1 p2 w3 Rt E) : Calls Cz.P 15 #[(.pointer p1), (.pointer p2)] w3 (CP Rt E) := calls_of_B (C := Cz) Cz.ok Tryz.func15 (by kernel_rfl) (B15_eq p1 p2 w3 Rt E) h


end Go.Lf
end

section
set_option linter.unusedVariables false
set_option maxRecDepth 100000
set_option maxHeartbeats 4000000
namespace Go.Lf
open Go Go.Proofs
/-! ### lessor/lessorlaw13.long: function 16 -/
def B16_l1 (Rt : Value → World → Prop) (a1 : Option Addr) (n2 : Nat) (J5 : List Value → World → Prop) (m6 : List Value → World → Nat) (x7 : Int) (w8 : World) : Prop :=
  ifB (decide (x7 < (n2 : Int))) (need (decide (0 ≤ x7) && decide (x7 < (n2 : Int))) (nn a1 fun q9 => ∃ (s10 : ByteArray), w8.cell? (((q9.add ((x7).toNat * 10)).add 2).add 2) = some (.string s10) ∧ ifB (decide ((s10.size : Int) > 200)) (Rt (.bool true) w8) (J5 [(.int .i64 (IntKind.i64.wrap (x7 + 1)))] w8 ∧ m6 [(.int .i64 (IntKind.i64.wrap (x7 + 1)))] w8 < m6 [(.int .i64 x7)] w8))) (Rt (.bool (decide ((n2 : Int) > 80))) w8)
def B16 (a1 : Option Addr) (n2 : Nat) (c3 : Nat) (w4 : World) (Rt : Value → World → Prop) (E : List PanicEntry → World → Prop) : Prop :=
  ∃ (J5 : List Value → World → Prop) (m6 : List Value → World → Nat), J5 [(.int .i64 0)] w4 ∧ ∀ (x7 : Int) (w8 : World), J5 [(.int .i64 x7)] w8 → B16_l1 Rt a1 n2 J5 m6 x7 w8
def A16 : Ann := fun n => match n with | 0 => [(3, .one (.int .i64))] | _ => []
theorem B16_eq (a1 : Option Addr) (n2 : Nat) (c3 : Nat) (w4 : World) (Rt : Value → World → Prop) (E : List PanicEntry → World → Prop) : vFn Cz A16 Tryz.f16.results.toList (bodyOf Tryz.f16) (startFr Tryz.f16.ntmps [(.slice a1 n2 c3)]) w4 (CP Rt E) = B16 a1 n2 c3 w4 Rt E := by kernel_rfl
theorem C16 {a1 : Option Addr} {n2 : Nat} {c3 : Nat} {w4 : World} {Rt : Value → World → Prop} {E : List PanicEntry → World → Prop} (h : B16 a1 n2 c3 w4 Rt E) : Calls Cz.P 16 #[(.slice a1 n2 c3)] w4 (CP Rt E) := calls_of_B (C := Cz) Cz.ok Tryz.func16 (by kernel_rfl) (B16_eq a1 n2 c3 w4 Rt E) h


end Go.Lf
end

section
set_option linter.unusedVariables false
set_option maxRecDepth 100000
set_option maxHeartbeats 4000000
namespace Go.Lf
open Go Go.Proofs
/-! ### lessor/lessorlaw13.pool: function 17 -/
def B17 (w1 : World) (Rt : Value → World → Prop) (E : List PanicEntry → World → Prop) : Prop :=
  ∃ (a2 : Option Addr) (n3 : Nat) (c4 : Nat), ∃ w5 : World, Sem.run Cz.P (Instr.buildSlice 23 1 #[(0, (.agg #[(.int .u32 1), (.int .u32 6)]))]) w1 = .ok (.slice a2 n3 c4) w5 ∧ Rt (.slice a2 n3 c4) w5
def A17 : Ann := fun _ => []
theorem B17_eq (w1 : World) (Rt : Value → World → Prop) (E : List PanicEntry → World → Prop) : vFn Cz A17 Tryz.f17.results.toList (bodyOf Tryz.f17) (startFr Tryz.f17.ntmps []) w1 (CP Rt E) = B17 w1 Rt E := by kernel_rfl
theorem C17 {w1 : World} {Rt : Value → World → Prop} {E : List PanicEntry → World → Prop} (h : B17 w1 Rt E) : Calls Cz.P 17 #[] w1 (CP Rt E) := calls_of_B (C := Cz) Cz.ok Tryz.func17 (by kernel_rfl) (B17_eq w1 Rt E) h


end Go.Lf
end

section
set_option linter.unusedVariables false
set_option maxRecDepth 100000
set_option maxHeartbeats 4000000
namespace Go.Lf
open Go Go.Proofs
/-! ### lessor/lessorlaw13.step: function 18 -/
def B18_j1 (Rt : Value → World → Prop) (p86 : Option Addr) (p95 : Option Addr) (b99 : Bool) (w100 : World) : Prop :=
  Rt (.tuple #[(.pointer p86), (.pointer p95), (.bool b99)]) w100
def B18 (p1 : Option Addr) (p2 : Option Addr) (p3 : Option Addr) (p4 : Option Addr) (x5 : Int) (x6 : Int) (x7 : Int) (x8 : Int) (s9 : ByteArray) (x10 : Int) (x11 : Int) (x12 : Int) (x13 : Int) (x14 : Int) (w15 : World) (Rt : Value → World → Prop) (E : List PanicEntry → World → Prop) : Prop :=
  nw w15 (.cells #[(.int .i64 x5), (.int .i64 x6), (.int .u32 x7), (.int .i64 x8), (.string s9), (.int .i64 x10), (.int .i64 x11), (.int .i64 x12), (.int .i64 x13), (.int .i64 x14)] 51) fun k16 w17 => ∃ (x18 : Int), w17.cell? ⟨k16, 0, none⟩ = some (.int .i64 x18) ∧ ifB (x18 == 0) (∃ (x19 : Int) (x20 : Int) (s21 : ByteArray) (x22 : Int) (x23 : Int) (x24 : Int) (x25 : Int) (x26 : Int), (w17.cell? ⟨k16, 2, none⟩ = some (.int .u32 x19) ∧ w17.cell? ⟨k16, 3, none⟩ = some (.int .i64 x20) ∧ w17.cell? ⟨k16, 4, none⟩ = some (.string s21) ∧ w17.cell? ⟨k16, 5, none⟩ = some (.int .i64 x22) ∧ w17.cell? ⟨k16, 6, none⟩ = some (.int .i64 x23) ∧ w17.cell? ⟨k16, 7, none⟩ = some (.int .i64 x24) ∧ w17.cell? ⟨k16, 8, none⟩ = some (.int .i64 x25) ∧ w17.cell? ⟨k16, 9, none⟩ = some (.int .i64 x26) ∧ True) ∧ Calls Cz.P 29 #[(.pointer p3), (.agg #[(.int .u32 x19), (.int .i64 x20), (.string s21), (.int .i64 x22), (.int .i64 x23), (.int .i64 x24), (.int .i64 x25), (.int .i64 x26)])] w17 (CP (fun r29 w28 => ∃ (x27 : Int), r29 = (.int .i64 x27) ∧ ∃ (x30 : Int) (x31 : Int) (s32 : ByteArray) (x33 : Int) (x34 : Int) (x35 : Int) (x36 : Int) (x37 : Int), (w28.cell? ⟨k16, 2, none⟩ = some (.int .u32 x30) ∧ w28.cell? ⟨k16, 3, none⟩ = some (.int .i64 x31) ∧ w28.cell? ⟨k16, 4, none⟩ = some (.string s32) ∧ w28.cell? ⟨k16, 5, none⟩ = some (.int .i64 x33) ∧ w28.cell? ⟨k16, 6, none⟩ = some (.int .i64 x34) ∧ w28.cell? ⟨k16, 7, none⟩ = some (.int .i64 x35) ∧ w28.cell? ⟨k16, 8, none⟩ = some (.int .i64 x36) ∧ w28.cell? ⟨k16, 9, none⟩ = some (.int .i64 x37) ∧ True) ∧ Calls Cz.P 46 #[(.pointer p4), (.agg #[(.int .u32 x30), (.int .i64 x31), (.string s32), (.int .i64 x33), (.int .i64 x34), (.int .i64 x35), (.int .i64 x36), (.int .i64 x37)])] w28 (CP (fun r40 w39 => ∃ (x38 : Int), r40 = (.int .i64 x38) ∧ Rt (.tuple #[(.pointer p3), (.pointer p4), (.bool (x27 == x38))]) w39) E)) E)) (ifB (x18 == 1) (∃ (x41 : Int), w17.cell? ⟨k16, 1, none⟩ = some (.int .i64 x41) ∧ Calls Cz.P 32 #[(.pointer p3), (.int .i64 x41)] w17 (CP (fun r44 w43 => ∃ (x42 : Int), r44 = (.int .i64 x42) ∧ ∃ (x45 : Int), w43.cell? ⟨k16, 1, none⟩ = some (.int .i64 x45) ∧ Calls Cz.P 47 #[(.pointer p4), (.int .i64 x45)] w43 (CP (fun r48 w47 => ∃ (x46 : Int), r48 = (.int .i64 x46) ∧ Rt (.tuple #[(.pointer p3), (.pointer p4), (.bool (x42 == x46))]) w47) E)) E)) (ifB (x18 == 2) (∃ (x49 : Int), w17.cell? ⟨k16, 1, none⟩ = some (.int .i64 x49) ∧ Calls Cz.P 30 #[(.pointer p3), (.int .i64 x49)] w17 (CP (fun r52 w51 => ∃ (x50 : Int), r52 = (.int .i64 x50) ∧ ∃ (x53 : Int), w51.cell? ⟨k16, 1, none⟩ = some (.int .i64 x53) ∧ Calls Cz.P 48 #[(.pointer p4), (.int .i64 x53)] w51 (CP (fun r56 w55 => ∃ (x54 : Int), r56 = (.int .i64 x54) ∧ Rt (.tuple #[(.pointer p3), (.pointer p4), (.bool (x50 == x54))]) w55) E)) E)) (ifB (x18 == 3) (Calls Cz.P 31 #[(.pointer p3)] w17 (CP (fun r59 w58 => ∃ (x57 : Int), r59 = (.int .i64 x57) ∧ Calls Cz.P 49 #[(.pointer p4)] w58 (CP (fun r62 w61 => ∃ (x60 : Int), r62 = (.int .i64 x60) ∧ Rt (.tuple #[(.pointer p3), (.pointer p4), (.bool (x57 == x60))]) w61) E)) E)) (ifB (x18 == 4) (Calls Cz.P 25 #[(.pointer p3)] w17 (CP (fun r65 w64 => ∃ (x63 : Int), r65 = (.int .i64 x63) ∧ Calls Cz.P 50 #[(.pointer p4)] w64 (CP (fun r68 w67 => ∃ (x66 : Int), r68 = (.int .i64 x66) ∧ Rt (.tuple #[(.pointer p3), (.pointer p4), (.bool (x63 == x66))]) w67) E)) E)) (ifB (x18 == 5) (∃ (x69 : Int), w17.cell? ⟨k16, 1, none⟩ = some (.int .i64 x69) ∧ Calls Cz.P 51 #[(.pointer p1), (.int .i64 x69)] w17 (CP (fun r71 w70 => r71 = (.tuple #[]) ∧ ∃ (x72 : Int), w70.cell? ⟨k16, 1, none⟩ = some (.int .i64 x72) ∧ Calls Cz.P 52 #[(.pointer p2), (.int .i64 x72)] w70 (CP (fun r74 w73 => r74 = (.tuple #[]) ∧ Rt (.tuple #[(.pointer p3), (.pointer p4), (.bool true)]) w73) E)) E)) (∃ (x75 : Int), w17.cell? ⟨k16, 1, none⟩ = some (.int .i64 x75) ∧ Calls Cz.P 20 #[(.pointer p1), (.int .i64 x75)] w17 (CP (fun r77 w76 => r77 = (.tuple #[]) ∧ ∃ (x78 : Int), w76.cell? ⟨k16, 1, none⟩ = some (.int .i64 x78) ∧ Calls Cz.P 53 #[(.pointer p2), (.int .i64 x78)] w76 (CP (fun r80 w79 => r80 = (.tuple #[]) ∧ Calls Cz.P 17 #[] w79 (CP (fun r85 w84 => ∃ (a81 : Option Addr) (n82 : Nat) (c83 : Nat), r85 = (.slice a81 n82 c83) ∧ Calls Cz.P 13 #[(.pointer p1), (.slice a81 n82 c83)] w84 (CP (fun r89 w88 => ∃ (p86 : Option Addr) (x87 : Int), r89 = (.tuple #[(.pointer p86), (.int .i64 x87)]) ∧ Calls Cz.P 17 #[] w88 (CP (fun r94 w93 => ∃ (a90 : Option Addr) (n91 : Nat) (c92 : Nat), r94 = (.slice a90 n91 c92) ∧ Calls Cz.P 14 #[(.pointer p2), (.slice a90 n91 c92)] w93 (CP (fun r98 w97 => ∃ (p95 : Option Addr) (x96 : Int), r98 = (.tuple #[(.pointer p95), (.int .i64 x96)]) ∧ ifB (x87 == x96) (B18_j1 Rt p86 p95 (p86.isNone == p95.isNone) w97) (B18_j1 Rt p86 p95 false w97)) E)) E)) E)) E)) E)) E)))))))
def A18 : Ann := fun _ => []
theorem B18_eq (p1 : Option Addr) (p2 : Option Addr) (p3 : Option Addr) (p4 : Option Addr) (x5 : Int) (x6 : Int) (x7 : Int) (x8 : Int) (s9 : ByteArray) (x10 : Int) (x11 : Int) (x12 : Int) (x13 : Int) (x14 : Int) (w15 : World) (Rt : Value → World → Prop) (E : List PanicEntry → World → Prop) : vFn Cz A18 Tryz.f18.results.toList (bodyOf Tryz.f18) (startFr Tryz.f18.ntmps [(.pointer p1), (.pointer p2), (.pointer p3), (.pointer p4), (.agg #[(.int .i64 x5), (.int .i64 x6), (.int .u32 x7), (.int .i64 x8), (.string s9), (.int .i64 x10), (.int .i64 x11), (.int .i64 x12), (.int .i64 x13), (.int .i64 x14)])]) w15 (CP Rt E) = B18 p1 p2 p3 p4 x5 x6 x7 x8 s9 x10 x11 x12 x13 x14 w15 Rt E := by kernel_rfl
theorem C18 {p1 : Option Addr} {p2 : Option Addr} {p3 : Option Addr} {p4 : Option Addr} {x5 : Int} {x6 : Int} {x7 : Int} {x8 : Int} {s9 : ByteArray} {x10 : Int} {x11 : Int} {x12 : Int} {x13 : Int} {x14 : Int} {w15 : World} {Rt : Value → World → Prop} {E : List PanicEntry → World → Prop} (h : B18 p1 p2 p3 p4 x5 x6 x7 x8 s9 x10 x11 x12 x13 x14 w15 Rt E) : Calls Cz.P 18 #[(.pointer p1), (.pointer p2), (.pointer p3), (.pointer p4), (.agg #[(.int .i64 x5), (.int .i64 x6), (.int .u32 x7), (.int .i64 x8), (.string s9), (.int .i64 x10), (.int .i64 x11), (.int .i64 x12), (.int .i64 x13), (.int .i64 x14)])] w15 (CP Rt E) := calls_of_B (C := Cz) Cz.ok Tryz.func18 (by kernel_rfl) (B18_eq p1 p2 p3 p4 x5 x6 x7 x8 s9 x10 x11 x12 x13 x14 w15 Rt E) h


end Go.Lf
end

section
set_option linter.unusedVariables false
set_option maxRecDepth 100000
set_option maxHeartbeats 4000000
namespace Go.Lf
open Go Go.Proofs
/-! ### (*lessor/disk.Disk).Read: function 19 -/
def B19 (p1 : Option Addr) (w2 : World) (Rt : Value → World → Prop) (E : List PanicEntry → World → Prop) : Prop :=
  nn p1 fun q3 => ∃ (a4 : Option Addr) (n5 : Nat) (c6 : Nat), w2.cell? (q3.add 1) = some (.slice a4 n5 c6) ∧ ∃ (a7 : Option Addr) (n8 : Nat) (c9 : Nat), ∃ w10 : World, Sem.run Cz.P (Instr.buildSlice 56 1 #[(0, (.slice a4 n5 c6))]) w2 = .ok (.slice a7 n8 c9) w10 ∧ Calls Cz.P 35 #[(.slice a7 n8 c9)] w10 (CP (fun r15 w14 => ∃ (a11 : Option Addr) (n12 : Nat) (c13 : Nat), r15 = (.slice a11 n12 c13) ∧ Rt (.slice a11 n12 c13) w14) E)
def A19 : Ann := fun _ => []
theorem B19_eq (p1 : Option Addr) (w2 : World) (Rt : Value → World → Prop) (E : List PanicEntry → World → Prop) : vFn Cz A19 Tryz.f19.results.toList (bodyOf Tryz.f19) (startFr Tryz.f19.ntmps [(.pointer p1)]) w2 (CP Rt E) = B19 p1 w2 Rt E := by kernel_rfl
theorem C19 {p1 : Option Addr} {w2 : World} {Rt : Value → World → Prop} {E : List PanicEntry → World → Prop} (h : B19 p1 w2 Rt E) : Calls Cz.P 19 #[(.pointer p1)] w2 (CP Rt E) := calls_of_B (C := Cz) Cz.ok Tryz.func19 (by kernel_rfl) (B19_eq p1 w2 Rt E) h


end Go.Lf
end

section
set_option linter.unusedVariables false
set_option maxRecDepth 100000
set_option maxHeartbeats 4000000
namespace Go.Lf
open Go Go.Proofs
/-! ### (*lessor/disk.Disk).Crash: function 20 -/
def B20 (p1 : Option Addr) (x2 : Int) (w3 : World) (Rt : Value → World → Prop) (E : List PanicEntry → World → Prop) : Prop :=
  (fun w4 : World => nn p1 fun q5 => ∃ (a6 : Option Addr) (n7 : Nat) (c8 : Nat), w4.cell? (q5.add 1) = some (.slice a6 n7 c8) ∧ nn p1 fun q9 => ∃ (x10 : Int), w4.cell? (q9.add 2) = some (.int .i64 x10) ∧ (fun w11 : World => nn p1 fun q12 => ∃ (a13 : Option Addr) (n14 : Nat) (c15 : Nat), w11.cell? (q12.add 1) = some (.slice a13 n14 c15) ∧ nn p1 fun q16 => ∃ (x17 : Int), w11.cell? (q16.add 2) = some (.int .i64 x17) ∧ need (decide ((0 : Int) ≤ (IntKind.i64.wrap (x17 + (if (IntKind.i64.wrap ((n7 : Int) - x10)) < (if (0 : Int) > x2 then (0 : Int) else x2) then (IntKind.i64.wrap ((n7 : Int) - x10)) else (if (0 : Int) > x2 then (0 : Int) else x2))))) && decide ((IntKind.i64.wrap (x17 + (if (IntKind.i64.wrap ((n7 : Int) - x10)) < (if (0 : Int) > x2 then (0 : Int) else x2) then (IntKind.i64.wrap ((n7 : Int) - x10)) else (if (0 : Int) > x2 then (0 : Int) else x2)))) ≤ (c15 : Int))) (need (true && decide ((0 : Int) ≤ (IntKind.i64.wrap (x17 + (if (IntKind.i64.wrap ((n7 : Int) - x10)) < (if (0 : Int) > x2 then (0 : Int) else x2) then (IntKind.i64.wrap ((n7 : Int) - x10)) else (if (0 : Int) > x2 then (0 : Int) else x2)))))) ((∃ (a18 : Option Addr) (n19 : Nat) (c20 : Nat), ∃ w21 : World, Sem.run Cz.P (Instr.buildSlice 56 1 #[(0, (.slice (slA a13 0 c15 1) (((IntKind.i64.wrap (x17 + (if (IntKind.i64.wrap ((n7 : Int) - x10)) < (if (0 : Int) > x2 then (0 : Int) else x2) then (IntKind.i64.wrap ((n7 : Int) - x10)) else (if (0 : Int) > x2 then (0 : Int) else x2))))).toNat - 0) (c15 - 0)))]) w11 = .ok (.slice a18 n19 c20) w21 ∧ (True) ∧ (Calls Cz.P 35 #[(.slice a18 n19 c20)] w21 (CP (fun r26 w25 => ∃ (a22 : Option Addr) (n23 : Nat) (c24 : Nat), r26 = (.slice a22 n23 c24) ∧ (True) ∧ nn p1 fun q27 => (st w25 (q27.add 1) (.slice a22 n23 c24) fun w28 => nn p1 fun q29 => ∃ (a30 : Option Addr) (n31 : Nat) (c32 : Nat), w28.cell? (q29.add 1) = some (.slice a30 n31 c32) ∧ nn p1 fun q33 => st w28 (q33.add 2) (.int .i64 (n31 : Int)) fun w34 => nn p1 fun q35 => st w34 (q35.add 3) (.int .i64 (-1)) fun w36 => Rt (.tuple #[]) w36)) (fun _ _ => False))))))) (w4.drew)) (w3.drew)
def A20 : Ann := fun _ => []
theorem B20_eq (p1 : Option Addr) (x2 : Int) (w3 : World) (Rt : Value → World → Prop) (E : List PanicEntry → World → Prop) : vFn Cz A20 Tryz.f20.results.toList (bodyOf Tryz.f20) (startFr Tryz.f20.ntmps [(.pointer p1), (.int .i64 x2)]) w3 (CP Rt E) = B20 p1 x2 w3 Rt E := by kernel_rfl
theorem C20 {p1 : Option Addr} {x2 : Int} {w3 : World} {Rt : Value → World → Prop} {E : List PanicEntry → World → Prop} (h : B20 p1 x2 w3 Rt E) : Calls Cz.P 20 #[(.pointer p1), (.int .i64 x2)] w3 (CP Rt E) := calls_of_B (C := Cz) Cz.ok Tryz.func20 (by kernel_rfl) (B20_eq p1 x2 w3 Rt E) h


end Go.Lf
end

section
set_option linter.unusedVariables false
set_option maxRecDepth 100000
set_option maxHeartbeats 4000000
namespace Go.Lf
open Go Go.Proofs
/-! ### (*lessor/store.Store).Table: function 21 -/
def B21 (p1 : Option Addr) (w2 : World) (Rt : Value → World → Prop) (E : List PanicEntry → World → Prop) : Prop :=
  nn p1 fun q3 => ∃ (p4 : Option Addr), w2.cell? (q3.add 1) = some (.pointer p4) ∧ Rt (.pointer p4) w2
def A21 : Ann := fun _ => []
theorem B21_eq (p1 : Option Addr) (w2 : World) (Rt : Value → World → Prop) (E : List PanicEntry → World → Prop) : vFn Cz A21 Tryz.f21.results.toList (bodyOf Tryz.f21) (startFr Tryz.f21.ntmps [(.pointer p1)]) w2 (CP Rt E) = B21 p1 w2 Rt E := by kernel_rfl
theorem C21 {p1 : Option Addr} {w2 : World} {Rt : Value → World → Prop} {E : List PanicEntry → World → Prop} (h : B21 p1 w2 Rt E) : Calls Cz.P 21 #[(.pointer p1)] w2 (CP Rt E) := calls_of_B (C := Cz) Cz.ok Tryz.func21 (by kernel_rfl) (B21_eq p1 w2 Rt E) h


end Go.Lf
end

section
set_option linter.unusedVariables false
set_option maxRecDepth 100000
set_option maxHeartbeats 4000000
namespace Go.Lf
open Go Go.Proofs
/-! ### (*lessor/table.Table).All: function 22 -/
def B22 (p1 : Option Addr) (w2 : World) (Rt : Value → World → Prop) (E : List PanicEntry → World → Prop) : Prop :=
  Calls Cz.P 55 #[(.pointer p1), (.func (.func 56) #[] #[])] w2 (CP (fun r5 w4 => ∃ (v3 : Value), r5 = v3 ∧ Calls Cz.P 54 #[v3, (.func (.func 57) #[] #[])] w4 (CP (fun r10 w9 => ∃ (a6 : Option Addr) (n7 : Nat) (c8 : Nat), r10 = (.slice a6 n7 c8) ∧ Rt (.slice a6 n7 c8) w9) E)) E)
def A22 : Ann := fun _ => []
theorem B22_eq (p1 : Option Addr) (w2 : World) (Rt : Value → World → Prop) (E : List PanicEntry → World → Prop) : vFn Cz A22 Tryz.f22.results.toList (bodyOf Tryz.f22) (startFr Tryz.f22.ntmps [(.pointer p1)]) w2 (CP Rt E) = B22 p1 w2 Rt E := by kernel_rfl
theorem C22 {p1 : Option Addr} {w2 : World} {Rt : Value → World → Prop} {E : List PanicEntry → World → Prop} (h : B22 p1 w2 Rt E) : Calls Cz.P 22 #[(.pointer p1)] w2 (CP Rt E) := calls_of_B (C := Cz) Cz.ok Tryz.func22 (by kernel_rfl) (B22_eq p1 w2 Rt E) h


end Go.Lf
end

section
set_option linter.unusedVariables false
set_option maxRecDepth 100000
set_option maxHeartbeats 4000000
namespace Go.Lf
open Go Go.Proofs
/-! ### (*lessor/store.Store).State: function 23 -/
def B23 (p1 : Option Addr) (w2 : World) (Rt : Value → World → Prop) (E : List PanicEntry → World → Prop) : Prop :=
  nn p1 fun q3 => ∃ (x4 : Int), w2.cell? (q3.add 2) = some (.int .i64 x4) ∧ Rt (.int .i64 x4) w2
def A23 : Ann := fun _ => []
theorem B23_eq (p1 : Option Addr) (w2 : World) (Rt : Value → World → Prop) (E : List PanicEntry → World → Prop) : vFn Cz A23 Tryz.f23.results.toList (bodyOf Tryz.f23) (startFr Tryz.f23.ntmps [(.pointer p1)]) w2 (CP Rt E) = B23 p1 w2 Rt E := by kernel_rfl
theorem C23 {p1 : Option Addr} {w2 : World} {Rt : Value → World → Prop} {E : List PanicEntry → World → Prop} (h : B23 p1 w2 Rt E) : Calls Cz.P 23 #[(.pointer p1)] w2 (CP Rt E) := calls_of_B (C := Cz) Cz.ok Tryz.func23 (by kernel_rfl) (B23_eq p1 w2 Rt E) h


end Go.Lf
end

section
set_option linter.unusedVariables false
set_option maxRecDepth 100000
set_option maxHeartbeats 4000000
namespace Go.Lf
open Go Go.Proofs
/-! ### (*lessor/store.Store).Life: function 24 -/
def B24 (p1 : Option Addr) (w2 : World) (Rt : Value → World → Prop) (E : List PanicEntry → World → Prop) : Prop :=
  nn p1 fun q3 => ∃ (x4 : Int), w2.cell? (q3.add 3) = some (.int .i64 x4) ∧ Rt (.int .i64 x4) w2
def A24 : Ann := fun _ => []
theorem B24_eq (p1 : Option Addr) (w2 : World) (Rt : Value → World → Prop) (E : List PanicEntry → World → Prop) : vFn Cz A24 Tryz.f24.results.toList (bodyOf Tryz.f24) (startFr Tryz.f24.ntmps [(.pointer p1)]) w2 (CP Rt E) = B24 p1 w2 Rt E := by kernel_rfl
theorem C24 {p1 : Option Addr} {w2 : World} {Rt : Value → World → Prop} {E : List PanicEntry → World → Prop} (h : B24 p1 w2 Rt E) : Calls Cz.P 24 #[(.pointer p1)] w2 (CP Rt E) := calls_of_B (C := Cz) Cz.ok Tryz.func24 (by kernel_rfl) (B24_eq p1 w2 Rt E) h


end Go.Lf
end

section
set_option linter.unusedVariables false
set_option maxRecDepth 100000
set_option maxHeartbeats 4000000
namespace Go.Lf
open Go Go.Proofs
/-! ### (*lessor/store.Store).Compact: function 25 -/
def B25_j1 (J29 : List Value → World → Prop) (m30 : List Value → World → Nat) (a31 : Option Addr) (n32 : Nat) (c33 : Nat) (x34 : Int) (w35 : World) (a96 : Option Addr) (n97 : Nat) (c98 : Nat) (w99 : World) : Prop :=
  J29 [(.slice a96 n97 c98), (.int .i64 (IntKind.i64.wrap (x34 + 1)))] w99 ∧ m30 [(.slice a96 n97 c98), (.int .i64 (IntKind.i64.wrap (x34 + 1)))] w99 < m30 [(.slice a31 n32 c33), (.int .i64 x34)] w35
def B25_l1 (Rt : Value → World → Prop) (E : List PanicEntry → World → Prop) (p1 : Option Addr) (a24 : Option Addr) (n25 : Nat) (J29 : List Value → World → Prop) (m30 : List Value → World → Nat) (a31 : Option Addr) (n32 : Nat) (c33 : Nat) (x34 : Int) (w35 : World) : Prop :=
  ifB (decide (x34 < (n25 : Int))) (need (decide (0 ≤ x34) && decide (x34 < (n25 : Int))) (nn a24 fun q36 => ∃ (x37 : Int) (x38 : Int) (s39 : ByteArray) (x40 : Int) (x41 : Int) (x42 : Int) (x43 : Int) (x44 : Int), (w35.cell? (q36.add ((x34).toNat * 8)) = some (.int .u32 x37) ∧ w35.cell? ((q36.add ((x34).toNat * 8)).add 1) = some (.int .i64 x38) ∧ w35.cell? ((q36.add ((x34).toNat * 8)).add 2) = some (.string s39) ∧ w35.cell? ((q36.add ((x34).toNat * 8)).add 3) = some (.int .i64 x40) ∧ w35.cell? ((q36.add ((x34).toNat * 8)).add 4) = some (.int .i64 x41) ∧ w35.cell? ((q36.add ((x34).toNat * 8)).add 5) = some (.int .i64 x42) ∧ w35.cell? ((q36.add ((x34).toNat * 8)).add 6) = some (.int .i64 x43) ∧ w35.cell? ((q36.add ((x34).toNat * 8)).add 7) = some (.int .i64 x44) ∧ True) ∧ nw w35 (.cells #[(.int .u32 0), (.int .i64 0), (.string ⟨#[]⟩), (.int .i64 0), (.int .i64 0), (.int .i64 0), (.int .i64 0), (.int .i64 0)] 49) fun k45 w46 => st w46 ⟨k45, 0, none⟩ (.int .u32 x37) fun w47 => st w47 ⟨k45, 1, none⟩ (.int .i64 x38) fun w48 => st w48 ⟨k45, 2, none⟩ (.string s39) fun w49 => st w49 ⟨k45, 3, none⟩ (.int .i64 x40) fun w50 => st w50 ⟨k45, 4, none⟩ (.int .i64 x41) fun w51 => st w51 ⟨k45, 5, none⟩ (.int .i64 x42) fun w52 => st w52 ⟨k45, 6, none⟩ (.int .i64 x43) fun w53 => st w53 ⟨k45, 7, none⟩ (.int .i64 x44) fun w54 => (fun w55 : World => ∃ (x56 : Int) (x57 : Int) (s58 : ByteArray) (x59 : Int) (x60 : Int) (x61 : Int) (x62 : Int) (x63 : Int), (w55.cell? ⟨k45, 0, none⟩ = some (.int .u32 x56) ∧ w55.cell? ⟨k45, 1, none⟩ = some (.int .i64 x57) ∧ w55.cell? ⟨k45, 2, none⟩ = some (.string s58) ∧ w55.cell? ⟨k45, 3, none⟩ = some (.int .i64 x59) ∧ w55.cell? ⟨k45, 4, none⟩ = some (.int .i64 x60) ∧ w55.cell? ⟨k45, 5, none⟩ = some (.int .i64 x61) ∧ w55.cell? ⟨k45, 6, none⟩ = some (.int .i64 x62) ∧ w55.cell? ⟨k45, 7, none⟩ = some (.int .i64 x63) ∧ True) ∧ ∃ (x64 : Int), w55.cell? ⟨k45, 0, none⟩ = some (.int .u32 x64) ∧ (Calls Cz.P 60 #[(.int .u32 x64), (.int .i64 0), (.int .i64 0)] w55 (CP (fun r74 w73 => ∃ (x65 : Int) (x66 : Int) (s67 : ByteArray) (x68 : Int) (x69 : Int) (x70 : Int) (x71 : Int) (x72 : Int), r74 = (.agg #[(.int .u32 x65), (.int .i64 x66), (.string s67), (.int .i64 x68), (.int .i64 x69), (.int .i64 x70), (.int .i64 x71), (.int .i64 x72)]) ∧ ((w73.cell? ⟨k45, 0, none⟩ = w55.cell? ⟨k45, 0, none⟩ ∧ w73.cell? ⟨k45, 1, none⟩ = w55.cell? ⟨k45, 1, none⟩ ∧ w73.cell? ⟨k45, 2, none⟩ = w55.cell? ⟨k45, 2, none⟩ ∧ w73.cell? ⟨k45, 3, none⟩ = w55.cell? ⟨k45, 3, none⟩ ∧ w73.cell? ⟨k45, 4, none⟩ = w55.cell? ⟨k45, 4, none⟩ ∧ w73.cell? ⟨k45, 5, none⟩ = w55.cell? ⟨k45, 5, none⟩ ∧ w73.cell? ⟨k45, 6, none⟩ = w55.cell? ⟨k45, 6, none⟩ ∧ w73.cell? ⟨k45, 7, none⟩ = w55.cell? ⟨k45, 7, none⟩ ∧ True) ∧ True) ∧ ifB (!((x56 == x65) && ((x57 == x66) && ((s58.toList == s67.toList) && ((x59 == x68) && ((x60 == x69) && ((x61 == x70) && ((x62 == x71) && ((x63 == x72) && true))))))))) (∃ (x75 : Int) (x76 : Int) (s77 : ByteArray) (x78 : Int) (x79 : Int) (x80 : Int) (x81 : Int) (x82 : Int), (w73.cell? ⟨k45, 0, none⟩ = some (.int .u32 x75) ∧ w73.cell? ⟨k45, 1, none⟩ = some (.int .i64 x76) ∧ w73.cell? ⟨k45, 2, none⟩ = some (.string s77) ∧ w73.cell? ⟨k45, 3, none⟩ = some (.int .i64 x78) ∧ w73.cell? ⟨k45, 4, none⟩ = some (.int .i64 x79) ∧ w73.cell? ⟨k45, 5, none⟩ = some (.int .i64 x80) ∧ w73.cell? ⟨k45, 6, none⟩ = some (.int .i64 x81) ∧ w73.cell? ⟨k45, 7, none⟩ = some (.int .i64 x82) ∧ True) ∧ Calls Cz.P 61 #[(.agg #[(.int .u32 x75), (.int .i64 x76), (.string s77), (.int .i64 x78), (.int .i64 x79), (.int .i64 x80), (.int .i64 x81), (.int .i64 x82)])] w73 (CP (fun r87 w86 => ∃ (a83 : Option Addr) (n84 : Nat) (c85 : Nat), r87 = (.slice a83 n84 c85) ∧ ∃ (a88 : Option Addr) (n89 : Nat) (c90 : Nat), ∃ w91 : World, Sem.run Cz.P (Instr.buildSlice 56 1 #[(0, (.slice a83 n84 c85))]) w86 = .ok (.slice a88 n89 c90) w91 ∧ ∃ (a92 : Option Addr) (n93 : Nat) (c94 : Nat), ∃ w95 : World, Sem.run Cz.P (Builtin.append_ #[56, 56] 56 #[(.slice a31 n32 c33), (.slice a88 n89 c90)]) w91 = .ok (.slice a92 n93 c94) w95 ∧ B25_j1 J29 m30 a31 n32 c33 x34 w35 a92 n93 c94 w95) E)) (B25_j1 J29 m30 a31 n32 c33 x34 w35 a31 n32 c33 w73)) (fun _ _ => False)))) (w54.drew))) (nn p1 fun q100 => ∃ (p101 : Option Addr), w35.cell? q100 = some (.pointer p101) ∧ Calls Cz.P 62 #[(.pointer p101), (.slice a31 n32 c33)] w35 (CP (fun r104 w103 => ∃ (x102 : Int), r104 = (.int .i64 x102) ∧ Rt (.int .i64 x102) w103) E))
def B25 (p1 : Option Addr) (w2 : World) (Rt : Value → World → Prop) (E : List PanicEntry → World → Prop) : Prop :=
  (fun w3 : World => nn p1 fun q4 => ∃ (x5 : Int), w3.cell? (q4.add 2) = some (.int .i64 x5) ∧ nn p1 fun q6 => ∃ (x7 : Int), w3.cell? (q6.add 3) = some (.int .i64 x7) ∧ (Calls Cz.P 58 #[(.int .i64 x5)] w3 (CP (fun r12 w11 => ∃ (a8 : Option Addr) (n9 : Nat) (c10 : Nat), r12 = (.slice a8 n9 c10) ∧ ((w11.cell? (q6.add 3) = w3.cell? (q6.add 3) ∧ True) ∧ True) ∧ (Calls Cz.P 59 #[(.int .i64 x7)] w11 (CP (fun r17 w16 => ∃ (a13 : Option Addr) (n14 : Nat) (c15 : Nat), r17 = (.slice a13 n14 c15) ∧ (∃ (a18 : Option Addr) (n19 : Nat) (c20 : Nat), ∃ w21 : World, Sem.run Cz.P (Instr.buildSlice 56 2 #[(0, (.slice a8 n9 c10)), (1, (.slice a13 n14 c15))]) w16 = .ok (.slice a18 n19 c20) w21 ∧ nn p1 fun q22 => ∃ (p23 : Option Addr), w21.cell? (q22.add 1) = some (.pointer p23) ∧ Calls Cz.P 22 #[(.pointer p23)] w21 (CP (fun r28 w27 => ∃ (a24 : Option Addr) (n25 : Nat) (c26 : Nat), r28 = (.slice a24 n25 c26) ∧ ∃ (J29 : List Value → World → Prop) (m30 : List Value → World → Nat), J29 [(.slice a18 n19 c20), (.int .i64 0)] w27 ∧ ∀ (a31 : Option Addr) (n32 : Nat) (c33 : Nat) (x34 : Int) (w35 : World), J29 [(.slice a31 n32 c33), (.int .i64 x34)] w35 → B25_l1 Rt E p1 a24 n25 J29 m30 a31 n32 c33 x34 w35) E))) (fun _ _ => False)))) (fun _ _ => False)))) (w2.drew)
def A25 : Ann := fun n => match n with | 0 => [(3, .one .sl), (23, .one (.int .i64))] | _ => []
theorem B25_eq (p1 : Option Addr) (w2 : World) (Rt : Value → World → Prop) (E : List PanicEntry → World → Prop) : vFn Cz A25 Tryz.f25.results.toList (bodyOf Tryz.f25) (startFr Tryz.f25.ntmps [(.pointer p1)]) w2 (CP Rt E) = B25 p1 w2 Rt E := by kernel_rfl
theorem C25 {p1 : Option Addr} {w2 : World} {Rt : Value → World → Prop} {E : List PanicEntry → World → Prop} (h : B25 p1 w2 Rt E) : Calls Cz.P 25 #[(.pointer p1)] w2 (CP Rt E) := calls_of_B (C := Cz) Cz.ok Tryz.func25 (by kernel_rfl) (B25_eq p1 w2 Rt E) h


end Go.Lf
end

section
set_option linter.unusedVariables false
set_option maxRecDepth 100000
set_option maxHeartbeats 4000000
namespace Go.Lf
open Go Go.Proofs
/-! ### lessor/lessorref11.Same: function 26 -/
def B26_l1 (Rt : Value → World → Prop) (a1 : Option Addr) (n2 : Nat) (a4 : Option Addr) (n5 : Nat) (J8 : List Value → World → Prop) (m9 : List Value → World → Nat) (x10 : Int) (w11 : World) : Prop :=
  ifB (decide (x10 < (n2 : Int))) ((fun w12 : World => need (decide (0 ≤ x10) && decide (x10 < (n2 : Int))) (nn a1 fun q13 => ∃ (x14 : Int) (x15 : Int) (s16 : ByteArray) (x17 : Int) (x18 : Int) (x19 : Int) (x20 : Int) (x21 : Int), (w12.cell? (q13.add ((x10).toNat * 8)) = some (.int .u32 x14) ∧ w12.cell? ((q13.add ((x10).toNat * 8)).add 1) = some (.int .i64 x15) ∧ w12.cell? ((q13.add ((x10).toNat * 8)).add 2) = some (.string s16) ∧ w12.cell? ((q13.add ((x10).toNat * 8)).add 3) = some (.int .i64 x17) ∧ w12.cell? ((q13.add ((x10).toNat * 8)).add 4) = some (.int .i64 x18) ∧ w12.cell? ((q13.add ((x10).toNat * 8)).add 5) = some (.int .i64 x19) ∧ w12.cell? ((q13.add ((x10).toNat * 8)).add 6) = some (.int .i64 x20) ∧ w12.cell? ((q13.add ((x10).toNat * 8)).add 7) = some (.int .i64 x21) ∧ True) ∧ need (decide (0 ≤ x10) && decide (x10 < (n5 : Int))) (nn a4 fun q22 => ∃ (x23 : Int) (x24 : Int) (s25 : ByteArray) (x26 : Int) (x27 : Int) (x28 : Int) (x29 : Int) (x30 : Int), (w12.cell? (q22.add ((x10).toNat * 8)) = some (.int .u32 x23) ∧ w12.cell? ((q22.add ((x10).toNat * 8)).add 1) = some (.int .i64 x24) ∧ w12.cell? ((q22.add ((x10).toNat * 8)).add 2) = some (.string s25) ∧ w12.cell? ((q22.add ((x10).toNat * 8)).add 3) = some (.int .i64 x26) ∧ w12.cell? ((q22.add ((x10).toNat * 8)).add 4) = some (.int .i64 x27) ∧ w12.cell? ((q22.add ((x10).toNat * 8)).add 5) = some (.int .i64 x28) ∧ w12.cell? ((q22.add ((x10).toNat * 8)).add 6) = some (.int .i64 x29) ∧ w12.cell? ((q22.add ((x10).toNat * 8)).add 7) = some (.int .i64 x30) ∧ True) ∧ ifB (!((x14 == x23) && ((x15 == x24) && ((s16.toList == s25.toList) && ((x17 == x26) && ((x18 == x27) && ((x19 == x28) && ((x20 == x29) && ((x21 == x30) && true))))))))) (Rt (.bool false) w12) (J8 [(.int .i64 (IntKind.i64.wrap (x10 + 1)))] w12 ∧ m9 [(.int .i64 (IntKind.i64.wrap (x10 + 1)))] w12 < m9 [(.int .i64 x10)] w11)))) (w11.drew)) (Rt (.bool true) w11)
def B26 (a1 : Option Addr) (n2 : Nat) (c3 : Nat) (a4 : Option Addr) (n5 : Nat) (c6 : Nat) (w7 : World) (Rt : Value → World → Prop) (E : List PanicEntry → World → Prop) : Prop :=
  ifB ((n2 : Int) != (n5 : Int)) (Rt (.bool false) w7) (∃ (J8 : List Value → World → Prop) (m9 : List Value → World → Nat), J8 [(.int .i64 0)] w7 ∧ ∀ (x10 : Int) (w11 : World), J8 [(.int .i64 x10)] w11 → B26_l1 Rt a1 n2 a4 n5 J8 m9 x10 w11)
def A26 : Ann := fun n => match n with | 0 => [(5, .one (.int .i64))] | _ => []
theorem B26_eq (a1 : Option Addr) (n2 : Nat) (c3 : Nat) (a4 : Option Addr) (n5 : Nat) (c6 : Nat) (w7 : World) (Rt : Value → World → Prop) (E : List PanicEntry → World → Prop) : vFn Cz A26 Tryz.f26.results.toList (bodyOf Tryz.f26) (startFr Tryz.f26.ntmps [(.slice a1 n2 c3), (.slice a4 n5 c6)]) w7 (CP Rt E) = B26 a1 n2 c3 a4 n5 c6 w7 Rt E := by kernel_rfl
theorem C26 {a1 : Option Addr} {n2 : Nat} {c3 : Nat} {a4 : Option Addr} {n5 : Nat} {c6 : Nat} {w7 : World} {Rt : Value → World → Prop} {E : List PanicEntry → World → Prop} (h : B26 a1 n2 c3 a4 n5 c6 w7 Rt E) : Calls Cz.P 26 #[(.slice a1 n2 c3), (.slice a4 n5 c6)] w7 (CP Rt E) := calls_of_B (C := Cz) Cz.ok Tryz.func26 (by kernel_rfl) (B26_eq a1 n2 c3 a4 n5 c6 w7 Rt E) h


end Go.Lf
end

section
set_option linter.unusedVariables false
set_option maxRecDepth 100000
set_option maxHeartbeats 4000000
namespace Go.Lf
open Go Go.Proofs
/-! ### (*lessor/store.Store).Len: function 27 -/
def B27 (p1 : Option Addr) (w2 : World) (Rt : Value → World → Prop) (E : List PanicEntry → World → Prop) : Prop :=
  nn p1 fun q3 => ∃ (p4 : Option Addr), w2.cell? q3 = some (.pointer p4) ∧ Calls Cz.P 63 #[(.pointer p4)] w2 (CP (fun r7 w6 => ∃ (x5 : Int), r7 = (.int .i64 x5) ∧ Rt (.int .i64 x5) w6) E)
def A27 : Ann := fun _ => []
theorem B27_eq (p1 : Option Addr) (w2 : World) (Rt : Value → World → Prop) (E : List PanicEntry → World → Prop) : vFn Cz A27 Tryz.f27.results.toList (bodyOf Tryz.f27) (startFr Tryz.f27.ntmps [(.pointer p1)]) w2 (CP Rt E) = B27 p1 w2 Rt E := by kernel_rfl
theorem C27 {p1 : Option Addr} {w2 : World} {Rt : Value → World → Prop} {E : List PanicEntry → World → Prop} (h : B27 p1 w2 Rt E) : Calls Cz.P 27 #[(.pointer p1)] w2 (CP Rt E) := calls_of_B (C := Cz) Cz.ok Tryz.func27 (by kernel_rfl) (B27_eq p1 w2 Rt E) h


end Go.Lf
end
