/- Part 13 of the lemmas that a proof leans on; no claim is made here. By an AI agent. -/
import Derived.Test.YtofhodpdfbnkiaaGreatLfD07
section
set_option linter.unusedVariables false
set_option maxRecDepth 100000
set_option maxHeartbeats 4000000
namespace Go.Lf
open Go Go.Proofs
/-! ### (*lessor/table.Table).Set: function 73 -/
def B73 (p1 : Option Addr) (x2 : Int) (x3 : Int) (s4 : ByteArray) (x5 : Int) (x6 : Int) (x7 : Int) (x8 : Int) (x9 : Int) (w10 : World) (Rt : Value → World → Prop) (E : List PanicEntry → World → Prop) : Prop :=
  nw w10 (.cells #[(.int .u32 x2), (.int .i64 x3), (.string s4), (.int .i64 x5), (.int .i64 x6), (.int .i64 x7), (.int .i64 x8), (.int .i64 x9)] 49) fun k11 w12 => ∃ (x13 : Int) (x14 : Int) (s15 : ByteArray) (x16 : Int) (x17 : Int) (x18 : Int) (x19 : Int) (x20 : Int), (w12.cell? ⟨k11, 0, none⟩ = some (.int .u32 x13) ∧ w12.cell? ⟨k11, 1, none⟩ = some (.int .i64 x14) ∧ w12.cell? ⟨k11, 2, none⟩ = some (.string s15) ∧ w12.cell? ⟨k11, 3, none⟩ = some (.int .i64 x16) ∧ w12.cell? ⟨k11, 4, none⟩ = some (.int .i64 x17) ∧ w12.cell? ⟨k11, 5, none⟩ = some (.int .i64 x18) ∧ w12.cell? ⟨k11, 6, none⟩ = some (.int .i64 x19) ∧ w12.cell? ⟨k11, 7, none⟩ = some (.int .i64 x20) ∧ True) ∧ Calls Cz.P 64 #[(.agg #[(.int .u32 x13), (.int .i64 x14), (.string s15), (.int .i64 x16), (.int .i64 x17), (.int .i64 x18), (.int .i64 x19), (.int .i64 x20)])] w12 (CP (fun r23 w22 => ∃ (b21 : Bool), r23 = (.bool b21) ∧ ifB (!b21) (Rt (.int .i64 1) w22) (∃ (J24 : List Value → World → Prop), ((fun w25 : World => nn p1 fun q26 => ∃ (m27 : Option Nat), w25.cell? q26 = some (.map m27) ∧ ∃ (x28 : Int), w25.cell? ⟨k11, 0, none⟩ = some (.int .u32 x28) ∧ (∃ (x29 : Int) (x30 : Int) (s31 : ByteArray) (x32 : Int) (x33 : Int) (x34 : Int) (x35 : Int) (x36 : Int) (b37 : Bool), ∃ w38 : World, Sem.run Cz.P (Instr.lookup 108 (.map m27) (.int .u32 x28) true) w25 = .ok (.tuple #[(.agg #[(.int .u32 x29), (.int .i64 x30), (.string s31), (.int .i64 x32), (.int .i64 x33), (.int .i64 x34), (.int .i64 x35), (.int .i64 x36)]), (.bool b37)]) w38 ∧ (nw w38 (.cells #[(.int .u32 0), (.int .i64 0), (.string ⟨#[]⟩), (.int .i64 0), (.int .i64 0), (.int .i64 0), (.int .i64 0), (.int .i64 0)] 49) fun k39 w40 => (True) ∧ (st w40 ⟨k39, 0, none⟩ (.int .u32 x29) fun w41 => st w41 ⟨k39, 1, none⟩ (.int .i64 x30) fun w42 => st w42 ⟨k39, 2, none⟩ (.string s31) fun w43 => st w43 ⟨k39, 3, none⟩ (.int .i64 x32) fun w44 => st w44 ⟨k39, 4, none⟩ (.int .i64 x33) fun w45 => st w45 ⟨k39, 5, none⟩ (.int .i64 x34) fun w46 => st w46 ⟨k39, 6, none⟩ (.int .i64 x35) fun w47 => st w47 ⟨k39, 7, none⟩ (.int .i64 x36) fun w48 => (True) ∧ J24 [(.bool b37)] w48))) ∧ (nw w25 (.cells #[(.int .u32 0), (.int .i64 0), (.string ⟨#[]⟩), (.int .i64 0), (.int .i64 0), (.int .i64 0), (.int .i64 0), (.int .i64 0)] 49) fun k49 w50 => ((w50.cell? ⟨k11, 0, none⟩ = w25.cell? ⟨k11, 0, none⟩ ∧ True) ∧ (w50.cell? q26 = w25.cell? q26 ∧ True) ∧ True) ∧ (∃ (x51 : Int) (x52 : Int) (s53 : ByteArray) (x54 : Int) (x55 : Int) (x56 : Int) (x57 : Int) (x58 : Int) (b59 : Bool), ∃ w60 : World, Sem.run Cz.P (Instr.lookup 108 (.map m27) (.int .u32 x28) true) w50 = .ok (.tuple #[(.agg #[(.int .u32 x51), (.int .i64 x52), (.string s53), (.int .i64 x54), (.int .i64 x55), (.int .i64 x56), (.int .i64 x57), (.int .i64 x58)]), (.bool b59)]) w60 ∧ (st w60 ⟨k49, 0, none⟩ (.int .u32 x51) fun w61 => st w61 ⟨k49, 1, none⟩ (.int .i64 x52) fun w62 => st w62 ⟨k49, 2, none⟩ (.string s53) fun w63 => st w63 ⟨k49, 3, none⟩ (.int .i64 x54) fun w64 => st w64 ⟨k49, 4, none⟩ (.int .i64 x55) fun w65 => st w65 ⟨k49, 5, none⟩ (.int .i64 x56) fun w66 => st w66 ⟨k49, 6, none⟩ (.int .i64 x57) fun w67 => st w67 ⟨k49, 7, none⟩ (.int .i64 x58) fun w68 => (True) ∧ J24 [(.bool b59)] w68)))) (w22.drew)) ∧ ∀ (b69 : Bool) (w70 : World), J24 [(.bool b69)] w70 → ifB (!b69) (Rt (.int .i64 4) w70) ((fun w71 : World => nn p1 fun q72 => ∃ (m73 : Option Nat), w71.cell? q72 = some (.map m73) ∧ ∃ (x74 : Int), w71.cell? ⟨k11, 0, none⟩ = some (.int .u32 x74) ∧ ∃ (x75 : Int) (x76 : Int) (s77 : ByteArray) (x78 : Int) (x79 : Int) (x80 : Int) (x81 : Int) (x82 : Int), (w71.cell? ⟨k11, 0, none⟩ = some (.int .u32 x75) ∧ w71.cell? ⟨k11, 1, none⟩ = some (.int .i64 x76) ∧ w71.cell? ⟨k11, 2, none⟩ = some (.string s77) ∧ w71.cell? ⟨k11, 3, none⟩ = some (.int .i64 x78) ∧ w71.cell? ⟨k11, 4, none⟩ = some (.int .i64 x79) ∧ w71.cell? ⟨k11, 5, none⟩ = some (.int .i64 x80) ∧ w71.cell? ⟨k11, 6, none⟩ = some (.int .i64 x81) ∧ w71.cell? ⟨k11, 7, none⟩ = some (.int .i64 x82) ∧ True) ∧ (∃ w83 : World, Sem.run Cz.P (Instr.mapUpdate 108 (.map m73) (.int .u32 x74) (.agg #[(.int .u32 x75), (.int .i64 x76), (.string s77), (.int .i64 x78), (.int .i64 x79), (.int .i64 x80), (.int .i64 x81), (.int .i64 x82)])) w71 = .ok () w83 ∧ Rt (.int .i64 0) w83)) (w70.drew)))) E)
def A73 : Ann := fun n => match n with | 1000003 => [(0, .one .any)] | 2000003 => [(6, .one .bool)] | _ => []
theorem B73_eq (p1 : Option Addr) (x2 : Int) (x3 : Int) (s4 : ByteArray) (x5 : Int) (x6 : Int) (x7 : Int) (x8 : Int) (x9 : Int) (w10 : World) (Rt : Value → World → Prop) (E : List PanicEntry → World → Prop) : vFn Cz A73 Tryz.f73.results.toList (bodyOf Tryz.f73) (startFr Tryz.f73.ntmps [(.pointer p1), (.agg #[(.int .u32 x2), (.int .i64 x3), (.string s4), (.int .i64 x5), (.int .i64 x6), (.int .i64 x7), (.int .i64 x8), (.int .i64 x9)])]) w10 (CP Rt E) = B73 p1 x2 x3 s4 x5 x6 x7 x8 x9 w10 Rt E := by kernel_rfl
theorem C73 {p1 : Option Addr} {x2 : Int} {x3 : Int} {s4 : ByteArray} {x5 : Int} {x6 : Int} {x7 : Int} {x8 : Int} {x9 : Int} {w10 : World} {Rt : Value → World → Prop} {E : List PanicEntry → World → Prop} (h : B73 p1 x2 x3 s4 x5 x6 x7 x8 x9 w10 Rt E) : Calls Cz.P 73 #[(.pointer p1), (.agg #[(.int .u32 x2), (.int .i64 x3), (.string s4), (.int .i64 x5), (.int .i64 x6), (.int .i64 x7), (.int .i64 x8), (.int .i64 x9)])] w10 (CP Rt E) := calls_of_B (C := Cz) Cz.ok Tryz.func73 (by kernel_rfl) (B73_eq p1 x2 x3 s4 x5 x6 x7 x8 x9 w10 Rt E) h


end Go.Lf
end

section
set_option linter.unusedVariables false
set_option maxRecDepth 100000
set_option maxHeartbeats 4000000
namespace Go.Lf
open Go Go.Proofs
/-! ### lessor/lessorref01.Pool: function 74 -/
def B74_j1 (Rt : Value → World → Prop) (E : List PanicEntry → World → Prop) (a1 : Option Addr) (n2 : Nat) (c3 : Nat) (J17 : List Value → World → Prop) (m18 : List Value → World → Nat) (a19 : Option Addr) (n20 : Nat) (c21 : Nat) (x22 : Int) (x23 : Int) (w24 : World) (J25 : List Value → World → Prop) (m26 : List Value → World → Nat) (x27 : Int) (x28 : Int) (w29 : World) (b33 : Bool) (w34 : World) : Prop :=
  ifB b33 (J25 [(.int .i64 (IntKind.i64.wrap (x27 + 1))), (.int .i64 (IntKind.i64.wrap (x28 + 1)))] w34 ∧ m26 [(.int .i64 (IntKind.i64.wrap (x27 + 1))), (.int .i64 (IntKind.i64.wrap (x28 + 1)))] w34 < m26 [(.int .i64 x27), (.int .i64 x28)] w29) (ifB (decide (x27 > 256)) (Rt (.tuple #[(.slice none 0 0), (.int .i64 3)]) w34) (∃ (a35 : Option Addr) (n36 : Nat) (c37 : Nat), ∃ w38 : World, Sem.run Cz.P (Instr.buildSlice 23 1 #[(0, (.agg #[(.int .u32 (IntKind.u32.wrap x23)), (.int .u32 (IntKind.u32.wrap x28))]))]) w34 = .ok (.slice a35 n36 c37) w38 ∧ ∃ (a39 : Option Addr) (n40 : Nat) (c41 : Nat), ∃ w42 : World, Sem.run Cz.P (Builtin.append_ #[23, 23] 23 #[(.slice a19 n20 c21), (.slice a35 n36 c37)]) w38 = .ok (.slice a39 n40 c41) w42 ∧ Calls Cz.P 110 #[(.slice a1 n2 c3), (.int .i64 (IntKind.i64.wrap (x28 + 1)))] w42 (CP (fun r45 w44 => ∃ (x43 : Int), r45 = (.int .i64 x43) ∧ J17 [(.slice a39 n40 c41), (.int .i64 x27), (.int .i64 x43)] w44 ∧ m18 [(.slice a39 n40 c41), (.int .i64 x27), (.int .i64 x43)] w44 < m18 [(.slice a19 n20 c21), (.int .i64 x22), (.int .i64 x23)] w24) E)))
def B74_l3 (Rt : Value → World → Prop) (E : List PanicEntry → World → Prop) (a1 : Option Addr) (n2 : Nat) (c3 : Nat) (J17 : List Value → World → Prop) (m18 : List Value → World → Nat) (a19 : Option Addr) (n20 : Nat) (c21 : Nat) (x22 : Int) (x23 : Int) (w24 : World) (J25 : List Value → World → Prop) (m26 : List Value → World → Nat) (x27 : Int) (x28 : Int) (w29 : World) : Prop :=
  Calls Cz.P 111 #[(.slice a1 n2 c3), (.int .i64 (IntKind.i64.wrap (x28 + 1)))] w29 (CP (fun r32 w31 => ∃ (b30 : Bool), r32 = (.bool b30) ∧ ifB b30 (B74_j1 Rt E a1 n2 c3 J17 m18 a19 n20 c21 x22 x23 w24 J25 m26 x27 x28 w29 (decide (x27 ≤ 256)) w31) (B74_j1 Rt E a1 n2 c3 J17 m18 a19 n20 c21 x22 x23 w24 J25 m26 x27 x28 w29 false w31)) E)
def B74_l2 (Rt : Value → World → Prop) (E : List PanicEntry → World → Prop) (a1 : Option Addr) (n2 : Nat) (c3 : Nat) (J17 : List Value → World → Prop) (m18 : List Value → World → Nat) (a19 : Option Addr) (n20 : Nat) (c21 : Nat) (x22 : Int) (x23 : Int) (w24 : World) : Prop :=
  ifB (decide (x23 ≥ 0)) (∃ (J25 : List Value → World → Prop) (m26 : List Value → World → Nat), J25 [(.int .i64 (IntKind.i64.wrap (x22 + 1))), (.int .i64 x23)] w24 ∧ ∀ (x27 : Int) (x28 : Int) (w29 : World), J25 [(.int .i64 x27), (.int .i64 x28)] w29 → B74_l3 Rt E a1 n2 c3 J17 m18 a19 n20 c21 x22 x23 w24 J25 m26 x27 x28 w29) (Rt (.tuple #[(.slice a19 n20 c21), (.int .i64 0)]) w24)
def B74_l1 (Rt : Value → World → Prop) (E : List PanicEntry → World → Prop) (a1 : Option Addr) (n2 : Nat) (c3 : Nat) (J5 : List Value → World → Prop) (m6 : List Value → World → Nat) (x7 : Int) (w8 : World) : Prop :=
  ifB (decide (x7 < (n2 : Int))) ((fun w9 : World => need (decide (0 ≤ x7) && decide (x7 < (n2 : Int))) (nn a1 fun q10 => ∃ (x11 : Int), w9.cell? ((q10.add ((x7).toNat * 2)).add 1) = some (.int .u32 x11) ∧ need (decide (0 ≤ x7) && decide (x7 < (n2 : Int))) (nn a1 fun q12 => ∃ (x13 : Int), w9.cell? (q12.add ((x7).toNat * 2)) = some (.int .u32 x13) ∧ ifB (decide (x11 < x13)) (Rt (.tuple #[(.slice none 0 0), (.int .i64 1)]) w9) (J5 [(.int .i64 (IntKind.i64.wrap (x7 + 1)))] w9 ∧ m6 [(.int .i64 (IntKind.i64.wrap (x7 + 1)))] w9 < m6 [(.int .i64 x7)] w8)))) (w8.drew)) (Calls Cz.P 110 #[(.slice a1 n2 c3), (.int .i64 0)] w8 (CP (fun r16 w15 => ∃ (x14 : Int), r16 = (.int .i64 x14) ∧ ∃ (J17 : List Value → World → Prop) (m18 : List Value → World → Nat), J17 [(.slice none 0 0), (.int .i64 0), (.int .i64 x14)] w15 ∧ ∀ (a19 : Option Addr) (n20 : Nat) (c21 : Nat) (x22 : Int) (x23 : Int) (w24 : World), J17 [(.slice a19 n20 c21), (.int .i64 x22), (.int .i64 x23)] w24 → B74_l2 Rt E a1 n2 c3 J17 m18 a19 n20 c21 x22 x23 w24) E))
def B74 (a1 : Option Addr) (n2 : Nat) (c3 : Nat) (w4 : World) (Rt : Value → World → Prop) (E : List PanicEntry → World → Prop) : Prop :=
  ∃ (J5 : List Value → World → Prop) (m6 : List Value → World → Nat), J5 [(.int .i64 0)] w4 ∧ ∀ (x7 : Int) (w8 : World), J5 [(.int .i64 x7)] w8 → B74_l1 Rt E a1 n2 c3 J5 m6 x7 w8
def A74 : Ann := fun n => match n with | 0 => [(4, .one (.int .i64))] | 1 => [(5, .one .sl), (6, .one (.int .i64)), (7, .one (.int .i64))] | 2 => [(6, .one (.int .i64)), (8, .one (.int .i64))] | _ => []
theorem B74_eq (a1 : Option Addr) (n2 : Nat) (c3 : Nat) (w4 : World) (Rt : Value → World → Prop) (E : List PanicEntry → World → Prop) : vFn Cz A74 Tryz.f74.results.toList (bodyOf Tryz.f74) (startFr Tryz.f74.ntmps [(.slice a1 n2 c3)]) w4 (CP Rt E) = B74 a1 n2 c3 w4 Rt E := by kernel_rfl
theorem C74 {a1 : Option Addr} {n2 : Nat} {c3 : Nat} {w4 : World} {Rt : Value → World → Prop} {E : List PanicEntry → World → Prop} (h : B74 a1 n2 c3 w4 Rt E) : Calls Cz.P 74 #[(.slice a1 n2 c3)] w4 (CP Rt E) := calls_of_B (C := Cz) Cz.ok Tryz.func74 (by kernel_rfl) (B74_eq a1 n2 c3 w4 Rt E) h


end Go.Lf
end

section
set_option linter.unusedVariables false
set_option maxRecDepth 100000
set_option maxHeartbeats 4000000
namespace Go.Lf
open Go Go.Proofs
/-! ### lessor/lessorref01.Count: function 75 -/
def B75_l1 (Rt : Value → World → Prop) (a1 : Option Addr) (n2 : Nat) (J5 : List Value → World → Prop) (m6 : List Value → World → Nat) (x7 : Int) (x8 : Int) (w9 : World) : Prop :=
  ifB (decide (x8 < (n2 : Int))) ((fun w10 : World => need (decide (0 ≤ x8) && decide (x8 < (n2 : Int))) (nn a1 fun q11 => ∃ (x12 : Int), w10.cell? ((q11.add ((x8).toNat * 2)).add 1) = some (.int .u32 x12) ∧ need (decide (0 ≤ x8) && decide (x8 < (n2 : Int))) (nn a1 fun q13 => ∃ (x14 : Int), w10.cell? (q13.add ((x8).toNat * 2)) = some (.int .u32 x14) ∧ J5 [(.int .i64 (IntKind.i64.wrap ((IntKind.i64.wrap ((IntKind.i64.wrap (x7 + (IntKind.i64.wrap x12))) - (IntKind.i64.wrap x14))) + 1))), (.int .i64 (IntKind.i64.wrap (x8 + 1)))] w10 ∧ m6 [(.int .i64 (IntKind.i64.wrap ((IntKind.i64.wrap ((IntKind.i64.wrap (x7 + (IntKind.i64.wrap x12))) - (IntKind.i64.wrap x14))) + 1))), (.int .i64 (IntKind.i64.wrap (x8 + 1)))] w10 < m6 [(.int .i64 x7), (.int .i64 x8)] w9))) (w9.drew)) (Rt (.int .i64 x7) w9)
def B75 (a1 : Option Addr) (n2 : Nat) (c3 : Nat) (w4 : World) (Rt : Value → World → Prop) (E : List PanicEntry → World → Prop) : Prop :=
  ∃ (J5 : List Value → World → Prop) (m6 : List Value → World → Nat), J5 [(.int .i64 0), (.int .i64 0)] w4 ∧ ∀ (x7 : Int) (x8 : Int) (w9 : World), J5 [(.int .i64 x7), (.int .i64 x8)] w9 → B75_l1 Rt a1 n2 J5 m6 x7 x8 w9
def A75 : Ann := fun n => match n with | 0 => [(3, .one (.int .i64)), (4, .one (.int .i64))] | _ => []
theorem B75_eq (a1 : Option Addr) (n2 : Nat) (c3 : Nat) (w4 : World) (Rt : Value → World → Prop) (E : List PanicEntry → World → Prop) : vFn Cz A75 Tryz.f75.results.toList (bodyOf Tryz.f75) (startFr Tryz.f75.ntmps [(.slice a1 n2 c3)]) w4 (CP Rt E) = B75 a1 n2 c3 w4 Rt E := by kernel_rfl
theorem C75 {a1 : Option Addr} {n2 : Nat} {c3 : Nat} {w4 : World} {Rt : Value → World → Prop} {E : List PanicEntry → World → Prop} (h : B75 a1 n2 c3 w4 Rt E) : Calls Cz.P 75 #[(.slice a1 n2 c3)] w4 (CP Rt E) := calls_of_B (C := Cz) Cz.ok Tryz.func75 (by kernel_rfl) (B75_eq a1 n2 c3 w4 Rt E) h


end Go.Lf
end

section
set_option linter.unusedVariables false
set_option maxRecDepth 100000
set_option maxHeartbeats 4000000
namespace Go.Lf
open Go Go.Proofs
/-! ### lessor/lessorref01.At: function 76 -/
def B76_j1 (Rt : Value → World → Prop) (a1 : Option Addr) (n2 : Nat) (J6 : List Value → World → Prop) (m7 : List Value → World → Nat) (x8 : Int) (x9 : Int) (w10 : World) (b11 : Bool) (w12 : World) : Prop :=
  ifB b11 ((fun w13 : World => need (decide (0 ≤ x9) && decide (x9 < (n2 : Int))) (nn a1 fun q14 => ∃ (x15 : Int), w13.cell? ((q14.add ((x9).toNat * 2)).add 1) = some (.int .u32 x15) ∧ need (decide (0 ≤ x9) && decide (x9 < (n2 : Int))) (nn a1 fun q16 => ∃ (x17 : Int), w13.cell? (q16.add ((x9).toNat * 2)) = some (.int .u32 x17) ∧ ifB (decide (x8 < (IntKind.i64.wrap ((IntKind.i64.wrap ((IntKind.i64.wrap x15) - (IntKind.i64.wrap x17))) + 1)))) (need (decide (0 ≤ x9) && decide (x9 < (n2 : Int))) (nn a1 fun q18 => ∃ (x19 : Int), w13.cell? (q18.add ((x9).toNat * 2)) = some (.int .u32 x19) ∧ Rt (.tuple #[(.int .u32 (IntKind.u32.wrap (x19 + (IntKind.u32.wrap x8)))), (.int .i64 0)]) w13)) (J6 [(.int .i64 (IntKind.i64.wrap (x8 - (IntKind.i64.wrap ((IntKind.i64.wrap ((IntKind.i64.wrap x15) - (IntKind.i64.wrap x17))) + 1))))), (.int .i64 (IntKind.i64.wrap (x9 + 1)))] w13 ∧ m7 [(.int .i64 (IntKind.i64.wrap (x8 - (IntKind.i64.wrap ((IntKind.i64.wrap ((IntKind.i64.wrap x15) - (IntKind.i64.wrap x17))) + 1))))), (.int .i64 (IntKind.i64.wrap (x9 + 1)))] w13 < m7 [(.int .i64 x8), (.int .i64 x9)] w10)))) (w12.drew)) (Rt (.tuple #[(.int .u32 0), (.int .i64 4)]) w12)
def B76_l1 (Rt : Value → World → Prop) (a1 : Option Addr) (n2 : Nat) (J6 : List Value → World → Prop) (m7 : List Value → World → Nat) (x8 : Int) (x9 : Int) (w10 : World) : Prop :=
  ifB (decide (x9 < (n2 : Int))) (B76_j1 Rt a1 n2 J6 m7 x8 x9 w10 (decide (x8 ≥ 0)) w10) (B76_j1 Rt a1 n2 J6 m7 x8 x9 w10 false w10)
def B76 (a1 : Option Addr) (n2 : Nat) (c3 : Nat) (x4 : Int) (w5 : World) (Rt : Value → World → Prop) (E : List PanicEntry → World → Prop) : Prop :=
  ∃ (J6 : List Value → World → Prop) (m7 : List Value → World → Nat), J6 [(.int .i64 x4), (.int .i64 0)] w5 ∧ ∀ (x8 : Int) (x9 : Int) (w10 : World), J6 [(.int .i64 x8), (.int .i64 x9)] w10 → B76_l1 Rt a1 n2 J6 m7 x8 x9 w10
def A76 : Ann := fun n => match n with | 0 => [(1, .one (.int .i64)), (6, .one (.int .i64))] | _ => []
theorem B76_eq (a1 : Option Addr) (n2 : Nat) (c3 : Nat) (x4 : Int) (w5 : World) (Rt : Value → World → Prop) (E : List PanicEntry → World → Prop) : vFn Cz A76 Tryz.f76.results.toList (bodyOf Tryz.f76) (startFr Tryz.f76.ntmps [(.slice a1 n2 c3), (.int .i64 x4)]) w5 (CP Rt E) = B76 a1 n2 c3 x4 w5 Rt E := by kernel_rfl
theorem C76 {a1 : Option Addr} {n2 : Nat} {c3 : Nat} {x4 : Int} {w5 : World} {Rt : Value → World → Prop} {E : List PanicEntry → World → Prop} (h : B76 a1 n2 c3 x4 w5 Rt E) : Calls Cz.P 76 #[(.slice a1 n2 c3), (.int .i64 x4)] w5 (CP Rt E) := calls_of_B (C := Cz) Cz.ok Tryz.func76 (by kernel_rfl) (B76_eq a1 n2 c3 x4 w5 Rt E) h


end Go.Lf
end

section
set_option linter.unusedVariables false
set_option maxRecDepth 100000
set_option maxHeartbeats 4000000
namespace Go.Lf
open Go Go.Proofs
/-! ### lessor/lessorref11.Bare: function 77 -/
def B77 (x1 : Int) (x2 : Int) (x3 : Int) (w4 : World) (Rt : Value → World → Prop) (E : List PanicEntry → World → Prop) : Prop :=
  nw w4 (.cells #[(.int .u32 0), (.int .i64 0), (.string ⟨#[]⟩), (.int .i64 0), (.int .i64 0), (.int .i64 0), (.int .i64 0), (.int .i64 0)] 49) fun k5 w6 => st w6 ⟨k5, 0, none⟩ (.int .u32 x1) fun w7 => st w7 ⟨k5, 1, none⟩ (.int .i64 x2) fun w8 => st w8 ⟨k5, 2, none⟩ (.string ⟨#[]⟩) fun w9 => st w9 ⟨k5, 3, none⟩ (.int .i64 0) fun w10 => st w10 ⟨k5, 4, none⟩ (.int .i64 0) fun w11 => st w11 ⟨k5, 5, none⟩ (.int .i64 0) fun w12 => st w12 ⟨k5, 6, none⟩ (.int .i64 0) fun w13 => st w13 ⟨k5, 7, none⟩ (.int .i64 x3) fun w14 => ∃ (x15 : Int) (x16 : Int) (s17 : ByteArray) (x18 : Int) (x19 : Int) (x20 : Int) (x21 : Int) (x22 : Int), (w14.cell? ⟨k5, 0, none⟩ = some (.int .u32 x15) ∧ w14.cell? ⟨k5, 1, none⟩ = some (.int .i64 x16) ∧ w14.cell? ⟨k5, 2, none⟩ = some (.string s17) ∧ w14.cell? ⟨k5, 3, none⟩ = some (.int .i64 x18) ∧ w14.cell? ⟨k5, 4, none⟩ = some (.int .i64 x19) ∧ w14.cell? ⟨k5, 5, none⟩ = some (.int .i64 x20) ∧ w14.cell? ⟨k5, 6, none⟩ = some (.int .i64 x21) ∧ w14.cell? ⟨k5, 7, none⟩ = some (.int .i64 x22) ∧ True) ∧ Rt (.agg #[(.int .u32 x15), (.int .i64 x16), (.string s17), (.int .i64 x18), (.int .i64 x19), (.int .i64 x20), (.int .i64 x21), (.int .i64 x22)]) w14
def A77 : Ann := fun _ => []
theorem B77_eq (x1 : Int) (x2 : Int) (x3 : Int) (w4 : World) (Rt : Value → World → Prop) (E : List PanicEntry → World → Prop) : vFn Cz A77 Tryz.f77.results.toList (bodyOf Tryz.f77) (startFr Tryz.f77.ntmps [(.int .u32 x1), (.int .i64 x2), (.int .i64 x3)]) w4 (CP Rt E) = B77 x1 x2 x3 w4 Rt E := by kernel_rfl
theorem C77 {x1 : Int} {x2 : Int} {x3 : Int} {w4 : World} {Rt : Value → World → Prop} {E : List PanicEntry → World → Prop} (h : B77 x1 x2 x3 w4 Rt E) : Calls Cz.P 77 #[(.int .u32 x1), (.int .i64 x2), (.int .i64 x3)] w4 (CP Rt E) := calls_of_B (C := Cz) Cz.ok Tryz.func77 (by kernel_rfl) (B77_eq x1 x2 x3 w4 Rt E) h


end Go.Lf
end

section
set_option linter.unusedVariables false
set_option maxRecDepth 100000
set_option maxHeartbeats 4000000
namespace Go.Lf
open Go Go.Proofs
/-! ### lessor/lessorref09.Scan: function 78 -/
def B78_j1 (Rt : Value → World → Prop) (a1 : Option Addr) (c3 : Nat) (J5 : List Value → World → Prop) (m6 : List Value → World → Nat) (a7 : Option Addr) (n8 : Nat) (c9 : Nat) (x10 : Int) (w11 : World) (x14 : Int) (x16 : Int) (b19 : Bool) (w20 : World) : Prop :=
  ifB b19 (Rt (.tuple #[(.slice a7 n8 c9), (.int .i64 x10)]) w20) (∃ (a21 : Option Addr) (n22 : Nat) (c23 : Nat), ∃ w24 : World, Sem.run Cz.P (Instr.buildSlice 22 0 #[]) w20 = .ok (.slice a21 n22 c23) w24 ∧ need (decide ((0 : Int) ≤ (IntKind.i64.wrap ((IntKind.i64.wrap (x10 + 2)) + (IntKind.i64.wrap ((IntKind.i64.wrap ((IntKind.i64.wrap x14) * 256)) + (IntKind.i64.wrap x16)))))) && decide ((IntKind.i64.wrap ((IntKind.i64.wrap (x10 + 2)) + (IntKind.i64.wrap ((IntKind.i64.wrap ((IntKind.i64.wrap x14) * 256)) + (IntKind.i64.wrap x16))))) ≤ (c3 : Int))) (need (decide ((0 : Int) ≤ (IntKind.i64.wrap (x10 + 2))) && decide ((IntKind.i64.wrap (x10 + 2)) ≤ (IntKind.i64.wrap ((IntKind.i64.wrap (x10 + 2)) + (IntKind.i64.wrap ((IntKind.i64.wrap ((IntKind.i64.wrap x14) * 256)) + (IntKind.i64.wrap x16))))))) (∃ (a25 : Option Addr) (n26 : Nat) (c27 : Nat), ∃ w28 : World, Sem.run Cz.P (Builtin.append_ #[22, 22] 22 #[(.slice a21 n22 c23), (.slice (slA a1 (((IntKind.i64.wrap (x10 + 2))).toNat) c3 1) (((IntKind.i64.wrap ((IntKind.i64.wrap (x10 + 2)) + (IntKind.i64.wrap ((IntKind.i64.wrap ((IntKind.i64.wrap x14) * 256)) + (IntKind.i64.wrap x16)))))).toNat - ((IntKind.i64.wrap (x10 + 2))).toNat) (c3 - ((IntKind.i64.wrap (x10 + 2))).toNat))]) w24 = .ok (.slice a25 n26 c27) w28 ∧ ∃ (a29 : Option Addr) (n30 : Nat) (c31 : Nat), ∃ w32 : World, Sem.run Cz.P (Instr.buildSlice 56 1 #[(0, (.slice a25 n26 c27))]) w28 = .ok (.slice a29 n30 c31) w32 ∧ ∃ (a33 : Option Addr) (n34 : Nat) (c35 : Nat), ∃ w36 : World, Sem.run Cz.P (Builtin.append_ #[56, 56] 56 #[(.slice a7 n8 c9), (.slice a29 n30 c31)]) w32 = .ok (.slice a33 n34 c35) w36 ∧ J5 [(.slice a33 n34 c35), (.int .i64 (IntKind.i64.wrap ((IntKind.i64.wrap (x10 + 3)) + (IntKind.i64.wrap ((IntKind.i64.wrap ((IntKind.i64.wrap x14) * 256)) + (IntKind.i64.wrap x16))))))] w36 ∧ m6 [(.slice a33 n34 c35), (.int .i64 (IntKind.i64.wrap ((IntKind.i64.wrap (x10 + 3)) + (IntKind.i64.wrap ((IntKind.i64.wrap ((IntKind.i64.wrap x14) * 256)) + (IntKind.i64.wrap x16))))))] w36 < m6 [(.slice a7 n8 c9), (.int .i64 x10)] w11)))
def B78_l1 (Rt : Value → World → Prop) (a1 : Option Addr) (n2 : Nat) (c3 : Nat) (J5 : List Value → World → Prop) (m6 : List Value → World → Nat) (a7 : Option Addr) (n8 : Nat) (c9 : Nat) (x10 : Int) (w11 : World) : Prop :=
  ifB (decide ((IntKind.i64.wrap (x10 + 2)) < (n2 : Int))) ((fun w12 : World => need (decide (0 ≤ x10) && decide (x10 < (n2 : Int))) (nn a1 fun q13 => ∃ (x14 : Int), w12.cell? (q13.add ((x10).toNat * 1)) = some (.int .u8 x14) ∧ need (decide (0 ≤ (IntKind.i64.wrap (x10 + 1))) && decide ((IntKind.i64.wrap (x10 + 1)) < (n2 : Int))) (nn a1 fun q15 => ∃ (x16 : Int), w12.cell? (q15.add (((IntKind.i64.wrap (x10 + 1))).toNat * 1)) = some (.int .u8 x16) ∧ ifB (decide ((IntKind.i64.wrap ((IntKind.i64.wrap ((IntKind.i64.wrap x14) * 256)) + (IntKind.i64.wrap x16))) < 1)) (B78_j1 Rt a1 c3 J5 m6 a7 n8 c9 x10 w11 x14 x16 true w12) (ifB (decide ((IntKind.i64.wrap ((IntKind.i64.wrap ((IntKind.i64.wrap x14) * 256)) + (IntKind.i64.wrap x16))) > 1000)) (B78_j1 Rt a1 c3 J5 m6 a7 n8 c9 x10 w11 x14 x16 true w12) (ifB (decide ((IntKind.i64.wrap ((IntKind.i64.wrap (x10 + 3)) + (IntKind.i64.wrap ((IntKind.i64.wrap ((IntKind.i64.wrap x14) * 256)) + (IntKind.i64.wrap x16))))) > (n2 : Int))) (B78_j1 Rt a1 c3 J5 m6 a7 n8 c9 x10 w11 x14 x16 true w12) (need (decide (0 ≤ (IntKind.i64.wrap ((IntKind.i64.wrap (x10 + 2)) + (IntKind.i64.wrap ((IntKind.i64.wrap ((IntKind.i64.wrap x14) * 256)) + (IntKind.i64.wrap x16)))))) && decide ((IntKind.i64.wrap ((IntKind.i64.wrap (x10 + 2)) + (IntKind.i64.wrap ((IntKind.i64.wrap ((IntKind.i64.wrap x14) * 256)) + (IntKind.i64.wrap x16))))) < (n2 : Int))) (nn a1 fun q17 => ∃ (x18 : Int), w12.cell? (q17.add (((IntKind.i64.wrap ((IntKind.i64.wrap (x10 + 2)) + (IntKind.i64.wrap ((IntKind.i64.wrap ((IntKind.i64.wrap x14) * 256)) + (IntKind.i64.wrap x16)))))).toNat * 1)) = some (.int .u8 x18) ∧ B78_j1 Rt a1 c3 J5 m6 a7 n8 c9 x10 w11 x14 x16 (x18 != 90) w12))))))) (w11.drew)) (Rt (.tuple #[(.slice a7 n8 c9), (.int .i64 x10)]) w11)
def B78 (a1 : Option Addr) (n2 : Nat) (c3 : Nat) (w4 : World) (Rt : Value → World → Prop) (E : List PanicEntry → World → Prop) : Prop :=
  ∃ (J5 : List Value → World → Prop) (m6 : List Value → World → Nat), J5 [(.slice none 0 0), (.int .i64 0)] w4 ∧ ∀ (a7 : Option Addr) (n8 : Nat) (c9 : Nat) (x10 : Int) (w11 : World), J5 [(.slice a7 n8 c9), (.int .i64 x10)] w11 → B78_l1 Rt a1 n2 c3 J5 m6 a7 n8 c9 x10 w11
def A78 : Ann := fun n => match n with | 0 => [(4, .one .sl), (5, .one (.int .i64))] | _ => []
theorem B78_eq (a1 : Option Addr) (n2 : Nat) (c3 : Nat) (w4 : World) (Rt : Value → World → Prop) (E : List PanicEntry → World → Prop) : vFn Cz A78 Tryz.f78.results.toList (bodyOf Tryz.f78) (startFr Tryz.f78.ntmps [(.slice a1 n2 c3)]) w4 (CP Rt E) = B78 a1 n2 c3 w4 Rt E := by kernel_rfl
theorem C78 {a1 : Option Addr} {n2 : Nat} {c3 : Nat} {w4 : World} {Rt : Value → World → Prop} {E : List PanicEntry → World → Prop} (h : B78 a1 n2 c3 w4 Rt E) : Calls Cz.P 78 #[(.slice a1 n2 c3)] w4 (CP Rt E) := calls_of_B (C := Cz) Cz.ok Tryz.func78 (by kernel_rfl) (B78_eq a1 n2 c3 w4 Rt E) h


end Go.Lf
end

section
set_option linter.unusedVariables false
set_option maxRecDepth 100000
set_option maxHeartbeats 4000000
namespace Go.Lf
open Go Go.Proofs
/-! ### (*lessor/lessorref08.Disk).Swap: function 79 -/
def B79 (p1 : Option Addr) (a2 : Option Addr) (n3 : Nat) (c4 : Nat) (w5 : World) (Rt : Value → World → Prop) (E : List PanicEntry → World → Prop) : Prop :=
  Calls Cz.P 36 #[(.pointer p1)] w5 (CP (fun r8 w7 => ∃ (b6 : Bool), r8 = (.bool b6) ∧ ifB b6 (Rt (.int .i64 7) w7) (nn p1 fun q9 => ∃ (x10 : Int), w7.cell? q9 = some (.int .i64 x10) ∧ ifB (decide ((n3 : Int) > x10)) (Rt (.int .i64 3) w7) (∃ (a11 : Option Addr) (n12 : Nat) (c13 : Nat), ∃ w14 : World, Sem.run Cz.P (Instr.buildSlice 22 0 #[]) w7 = .ok (.slice a11 n12 c13) w14 ∧ ∃ (a15 : Option Addr) (n16 : Nat) (c17 : Nat), ∃ w18 : World, Sem.run Cz.P (Builtin.append_ #[22, 22] 22 #[(.slice a11 n12 c13), (.slice a2 n3 c4)]) w14 = .ok (.slice a15 n16 c17) w18 ∧ nn p1 fun q19 => st w18 (q19.add 1) (.slice a15 n16 c17) fun w20 => nn p1 fun q21 => st w20 (q21.add 2) (.int .i64 (n3 : Int)) fun w22 => Rt (.int .i64 0) w22))) E)
def A79 : Ann := fun _ => []
theorem B79_eq (p1 : Option Addr) (a2 : Option Addr) (n3 : Nat) (c4 : Nat) (w5 : World) (Rt : Value → World → Prop) (E : List PanicEntry → World → Prop) : vFn Cz A79 Tryz.f79.results.toList (bodyOf Tryz.f79) (startFr Tryz.f79.ntmps [(.pointer p1), (.slice a2 n3 c4)]) w5 (CP Rt E) = B79 p1 a2 n3 c4 w5 Rt E := by kernel_rfl
theorem C79 {p1 : Option Addr} {a2 : Option Addr} {n3 : Nat} {c4 : Nat} {w5 : World} {Rt : Value → World → Prop} {E : List PanicEntry → World → Prop} (h : B79 p1 a2 n3 c4 w5 Rt E) : Calls Cz.P 79 #[(.pointer p1), (.slice a2 n3 c4)] w5 (CP Rt E) := calls_of_B (C := Cz) Cz.ok Tryz.func79 (by kernel_rfl) (B79_eq p1 a2 n3 c4 w5 Rt E) h


end Go.Lf
end

section
set_option linter.unusedVariables false
set_option maxRecDepth 100000
set_option maxHeartbeats 4000000
namespace Go.Lf
open Go Go.Proofs
/-! ### (*lessor/lessorref12.Table).Set: function 81 -/
def B81 (p1 : Option Addr) (x2 : Int) (x3 : Int) (s4 : ByteArray) (x5 : Int) (x6 : Int) (x7 : Int) (x8 : Int) (x9 : Int) (w10 : World) (Rt : Value → World → Prop) (E : List PanicEntry → World → Prop) : Prop :=
  nw w10 (.cells #[(.int .u32 x2), (.int .i64 x3), (.string s4), (.int .i64 x5), (.int .i64 x6), (.int .i64 x7), (.int .i64 x8), (.int .i64 x9)] 49) fun k11 w12 => ∃ (x13 : Int) (x14 : Int) (s15 : ByteArray) (x16 : Int) (x17 : Int) (x18 : Int) (x19 : Int) (x20 : Int), (w12.cell? ⟨k11, 0, none⟩ = some (.int .u32 x13) ∧ w12.cell? ⟨k11, 1, none⟩ = some (.int .i64 x14) ∧ w12.cell? ⟨k11, 2, none⟩ = some (.string s15) ∧ w12.cell? ⟨k11, 3, none⟩ = some (.int .i64 x16) ∧ w12.cell? ⟨k11, 4, none⟩ = some (.int .i64 x17) ∧ w12.cell? ⟨k11, 5, none⟩ = some (.int .i64 x18) ∧ w12.cell? ⟨k11, 6, none⟩ = some (.int .i64 x19) ∧ w12.cell? ⟨k11, 7, none⟩ = some (.int .i64 x20) ∧ True) ∧ Calls Cz.P 82 #[(.agg #[(.int .u32 x13), (.int .i64 x14), (.string s15), (.int .i64 x16), (.int .i64 x17), (.int .i64 x18), (.int .i64 x19), (.int .i64 x20)])] w12 (CP (fun r23 w22 => ∃ (b21 : Bool), r23 = (.bool b21) ∧ ifB (!b21) (Rt (.int .i64 1) w22) (∃ (x24 : Int), w22.cell? ⟨k11, 0, none⟩ = some (.int .u32 x24) ∧ Calls Cz.P 114 #[(.pointer p1), (.int .u32 x24)] w22 (CP (fun r27 w26 => ∃ (x25 : Int), r27 = (.int .i64 x25) ∧ ifB (decide (x25 < 0)) (Rt (.int .i64 4) w26) ((fun w28 : World => nn p1 fun q29 => ∃ (a30 : Option Addr) (n31 : Nat) (c32 : Nat), w28.cell? q29 = some (.slice a30 n31 c32) ∧ ∃ (x33 : Int) (x34 : Int) (s35 : ByteArray) (x36 : Int) (x37 : Int) (x38 : Int) (x39 : Int) (x40 : Int), (w28.cell? ⟨k11, 0, none⟩ = some (.int .u32 x33) ∧ w28.cell? ⟨k11, 1, none⟩ = some (.int .i64 x34) ∧ w28.cell? ⟨k11, 2, none⟩ = some (.string s35) ∧ w28.cell? ⟨k11, 3, none⟩ = some (.int .i64 x36) ∧ w28.cell? ⟨k11, 4, none⟩ = some (.int .i64 x37) ∧ w28.cell? ⟨k11, 5, none⟩ = some (.int .i64 x38) ∧ w28.cell? ⟨k11, 6, none⟩ = some (.int .i64 x39) ∧ w28.cell? ⟨k11, 7, none⟩ = some (.int .i64 x40) ∧ True) ∧ need (decide (0 ≤ x25) && decide (x25 < (n31 : Int))) (nn a30 fun q41 => (st w28 (q41.add ((x25).toNat * 8)) (.int .u32 x33) fun w42 => st w42 ((q41.add ((x25).toNat * 8)).add 1) (.int .i64 x34) fun w43 => st w43 ((q41.add ((x25).toNat * 8)).add 2) (.string s35) fun w44 => st w44 ((q41.add ((x25).toNat * 8)).add 3) (.int .i64 x36) fun w45 => st w45 ((q41.add ((x25).toNat * 8)).add 4) (.int .i64 x37) fun w46 => st w46 ((q41.add ((x25).toNat * 8)).add 5) (.int .i64 x38) fun w47 => st w47 ((q41.add ((x25).toNat * 8)).add 6) (.int .i64 x39) fun w48 => st w48 ((q41.add ((x25).toNat * 8)).add 7) (.int .i64 x40) fun w49 => Rt (.int .i64 0) w49))) (w26.drew))) E))) E)
def A81 : Ann := fun _ => []
theorem B81_eq (p1 : Option Addr) (x2 : Int) (x3 : Int) (s4 : ByteArray) (x5 : Int) (x6 : Int) (x7 : Int) (x8 : Int) (x9 : Int) (w10 : World) (Rt : Value → World → Prop) (E : List PanicEntry → World → Prop) : vFn Cz A81 Tryz.f81.results.toList (bodyOf Tryz.f81) (startFr Tryz.f81.ntmps [(.pointer p1), (.agg #[(.int .u32 x2), (.int .i64 x3), (.string s4), (.int .i64 x5), (.int .i64 x6), (.int .i64 x7), (.int .i64 x8), (.int .i64 x9)])]) w10 (CP Rt E) = B81 p1 x2 x3 s4 x5 x6 x7 x8 x9 w10 Rt E := by kernel_rfl
theorem C81 {p1 : Option Addr} {x2 : Int} {x3 : Int} {s4 : ByteArray} {x5 : Int} {x6 : Int} {x7 : Int} {x8 : Int} {x9 : Int} {w10 : World} {Rt : Value → World → Prop} {E : List PanicEntry → World → Prop} (h : B81 p1 x2 x3 s4 x5 x6 x7 x8 x9 w10 Rt E) : Calls Cz.P 81 #[(.pointer p1), (.agg #[(.int .u32 x2), (.int .i64 x3), (.string s4), (.int .i64 x5), (.int .i64 x6), (.int .i64 x7), (.int .i64 x8), (.int .i64 x9)])] w10 (CP Rt E) := calls_of_B (C := Cz) Cz.ok Tryz.func81 (by kernel_rfl) (B81_eq p1 x2 x3 s4 x5 x6 x7 x8 x9 w10 Rt E) h


end Go.Lf
end

section
set_option linter.unusedVariables false
set_option maxRecDepth 100000
set_option maxHeartbeats 4000000
namespace Go.Lf
open Go Go.Proofs
/-! ### lessor/lessorref11.Right: function 82 -/
def B82_j3 (Rt : Value → World → Prop) (b43 : Bool) (w44 : World) : Prop :=
  Rt (.bool b43) w44
def B82_j4 (Rt : Value → World → Prop) (b50 : Bool) (w51 : World) : Prop :=
  Rt (.bool b50) w51
def B82_j2 (Rt : Value → World → Prop) (k10 : Nat) (b39 : Bool) (w40 : World) : Prop :=
  ifB b39 (∃ (s41 : ByteArray), w40.cell? ⟨k10, 2, none⟩ = some (.string s41) ∧ ifB (decide ((s41.size : Int) ≥ 1)) (∃ (s42 : ByteArray), w40.cell? ⟨k10, 2, none⟩ = some (.string s42) ∧ B82_j3 Rt (decide ((s42.size : Int) ≤ 32)) w40) (B82_j3 Rt false w40)) (∃ (s45 : ByteArray), w40.cell? ⟨k10, 2, none⟩ = some (.string s45) ∧ ifB (s45.toList == (⟨#[]⟩ : ByteArray).toList) (∃ (x46 : Int), w40.cell? ⟨k10, 3, none⟩ = some (.int .i64 x46) ∧ ifB (x46 == 0) (∃ (x47 : Int), w40.cell? ⟨k10, 4, none⟩ = some (.int .i64 x47) ∧ ifB (x47 == 0) (∃ (x48 : Int), w40.cell? ⟨k10, 5, none⟩ = some (.int .i64 x48) ∧ ifB (x48 == 0) (∃ (x49 : Int), w40.cell? ⟨k10, 6, none⟩ = some (.int .i64 x49) ∧ B82_j4 Rt (x49 == 0) w40) (B82_j4 Rt false w40)) (B82_j4 Rt false w40)) (B82_j4 Rt false w40)) (B82_j4 Rt false w40))
def B82_j1 (Rt : Value → World → Prop) (k10 : Nat) (b34 : Bool) (w35 : World) : Prop :=
  ifB b34 (Rt (.bool false) w35) (∃ (x36 : Int), w35.cell? ⟨k10, 1, none⟩ = some (.int .i64 x36) ∧ ifB (x36 == 2) (B82_j2 Rt k10 true w35) (∃ (x37 : Int), w35.cell? ⟨k10, 1, none⟩ = some (.int .i64 x37) ∧ ifB (x37 == 3) (B82_j2 Rt k10 true w35) (∃ (x38 : Int), w35.cell? ⟨k10, 1, none⟩ = some (.int .i64 x38) ∧ B82_j2 Rt k10 (x38 == 4) w35)))
def B82 (x1 : Int) (x2 : Int) (s3 : ByteArray) (x4 : Int) (x5 : Int) (x6 : Int) (x7 : Int) (x8 : Int) (w9 : World) (Rt : Value → World → Prop) (E : List PanicEntry → World → Prop) : Prop :=
  nw w9 (.cells #[(.int .u32 x1), (.int .i64 x2), (.string s3), (.int .i64 x4), (.int .i64 x5), (.int .i64 x6), (.int .i64 x7), (.int .i64 x8)] 49) fun k10 w11 => ∃ (x12 : Int), w11.cell? ⟨k10, 1, none⟩ = some (.int .i64 x12) ∧ ifB (decide (x12 < 0)) (B82_j1 Rt k10 true w11) (∃ (x13 : Int), w11.cell? ⟨k10, 1, none⟩ = some (.int .i64 x13) ∧ ifB (decide (x13 > 5)) (B82_j1 Rt k10 true w11) (∃ (x14 : Int), w11.cell? ⟨k10, 3, none⟩ = some (.int .i64 x14) ∧ Calls Cz.P 115 #[(.int .i64 x14)] w11 (CP (fun r17 w16 => ∃ (b15 : Bool), r17 = (.bool b15) ∧ ifB (!b15) (B82_j1 Rt k10 true w16) (∃ (x18 : Int), w16.cell? ⟨k10, 4, none⟩ = some (.int .i64 x18) ∧ Calls Cz.P 115 #[(.int .i64 x18)] w16 (CP (fun r21 w20 => ∃ (b19 : Bool), r21 = (.bool b19) ∧ ifB (!b19) (B82_j1 Rt k10 true w20) (∃ (x22 : Int), w20.cell? ⟨k10, 5, none⟩ = some (.int .i64 x22) ∧ Calls Cz.P 115 #[(.int .i64 x22)] w20 (CP (fun r25 w24 => ∃ (b23 : Bool), r25 = (.bool b23) ∧ ifB (!b23) (B82_j1 Rt k10 true w24) (∃ (x26 : Int), w24.cell? ⟨k10, 6, none⟩ = some (.int .i64 x26) ∧ Calls Cz.P 115 #[(.int .i64 x26)] w24 (CP (fun r29 w28 => ∃ (b27 : Bool), r29 = (.bool b27) ∧ ifB (!b27) (B82_j1 Rt k10 true w28) (∃ (x30 : Int), w28.cell? ⟨k10, 7, none⟩ = some (.int .i64 x30) ∧ Calls Cz.P 115 #[(.int .i64 x30)] w28 (CP (fun r33 w32 => ∃ (b31 : Bool), r33 = (.bool b31) ∧ B82_j1 Rt k10 (!b31) w32) E))) E))) E))) E))) E)))
def A82 : Ann := fun _ => []
theorem B82_eq (x1 : Int) (x2 : Int) (s3 : ByteArray) (x4 : Int) (x5 : Int) (x6 : Int) (x7 : Int) (x8 : Int) (w9 : World) (Rt : Value → World → Prop) (E : List PanicEntry → World → Prop) : vFn Cz A82 Tryz.f82.results.toList (bodyOf Tryz.f82) (startFr Tryz.f82.ntmps [(.agg #[(.int .u32 x1), (.int .i64 x2), (.string s3), (.int .i64 x4), (.int .i64 x5), (.int .i64 x6), (.int .i64 x7), (.int .i64 x8)])]) w9 (CP Rt E) = B82 x1 x2 s3 x4 x5 x6 x7 x8 w9 Rt E := by kernel_rfl
theorem C82 {x1 : Int} {x2 : Int} {s3 : ByteArray} {x4 : Int} {x5 : Int} {x6 : Int} {x7 : Int} {x8 : Int} {w9 : World} {Rt : Value → World → Prop} {E : List PanicEntry → World → Prop} (h : B82 x1 x2 s3 x4 x5 x6 x7 x8 w9 Rt E) : Calls Cz.P 82 #[(.agg #[(.int .u32 x1), (.int .i64 x2), (.string s3), (.int .i64 x4), (.int .i64 x5), (.int .i64 x6), (.int .i64 x7), (.int .i64 x8)])] w9 (CP Rt E) := calls_of_B (C := Cz) Cz.ok Tryz.func82 (by kernel_rfl) (B82_eq x1 x2 s3 x4 x5 x6 x7 x8 w9 Rt E) h


end Go.Lf
end

section
set_option linter.unusedVariables false
set_option maxRecDepth 100000
set_option maxHeartbeats 4000000
namespace Go.Lf
open Go Go.Proofs
/-! ### (*lessor/lessorref12.Table).Get: function 83 -/
def B83 (p1 : Option Addr) (x2 : Int) (w3 : World) (Rt : Value → World → Prop) (E : List PanicEntry → World → Prop) : Prop :=
  nw w3 (.cells #[(.int .u32 0), (.int .i64 0), (.string ⟨#[]⟩), (.int .i64 0), (.int .i64 0), (.int .i64 0), (.int .i64 0), (.int .i64 0)] 49) fun k4 w5 => Calls Cz.P 114 #[(.pointer p1), (.int .u32 x2)] w5 (CP (fun r8 w7 => ∃ (x6 : Int), r8 = (.int .i64 x6) ∧ ifB (decide (x6 < 0)) (st w7 ⟨k4, 0, none⟩ (.int .u32 0) fun w9 => st w9 ⟨k4, 1, none⟩ (.int .i64 0) fun w10 => st w10 ⟨k4, 2, none⟩ (.string ⟨#[]⟩) fun w11 => st w11 ⟨k4, 3, none⟩ (.int .i64 0) fun w12 => st w12 ⟨k4, 4, none⟩ (.int .i64 0) fun w13 => st w13 ⟨k4, 5, none⟩ (.int .i64 0) fun w14 => st w14 ⟨k4, 6, none⟩ (.int .i64 0) fun w15 => st w15 ⟨k4, 7, none⟩ (.int .i64 0) fun w16 => ∃ (x17 : Int) (x18 : Int) (s19 : ByteArray) (x20 : Int) (x21 : Int) (x22 : Int) (x23 : Int) (x24 : Int), (w16.cell? ⟨k4, 0, none⟩ = some (.int .u32 x17) ∧ w16.cell? ⟨k4, 1, none⟩ = some (.int .i64 x18) ∧ w16.cell? ⟨k4, 2, none⟩ = some (.string s19) ∧ w16.cell? ⟨k4, 3, none⟩ = some (.int .i64 x20) ∧ w16.cell? ⟨k4, 4, none⟩ = some (.int .i64 x21) ∧ w16.cell? ⟨k4, 5, none⟩ = some (.int .i64 x22) ∧ w16.cell? ⟨k4, 6, none⟩ = some (.int .i64 x23) ∧ w16.cell? ⟨k4, 7, none⟩ = some (.int .i64 x24) ∧ True) ∧ Rt (.tuple #[(.agg #[(.int .u32 x17), (.int .i64 x18), (.string s19), (.int .i64 x20), (.int .i64 x21), (.int .i64 x22), (.int .i64 x23), (.int .i64 x24)]), (.int .i64 4)]) w16) (nn p1 fun q25 => ∃ (a26 : Option Addr) (n27 : Nat) (c28 : Nat), w7.cell? q25 = some (.slice a26 n27 c28) ∧ need (decide (0 ≤ x6) && decide (x6 < (n27 : Int))) (nn a26 fun q29 => ∃ (x30 : Int) (x31 : Int) (s32 : ByteArray) (x33 : Int) (x34 : Int) (x35 : Int) (x36 : Int) (x37 : Int), (w7.cell? (q29.add ((x6).toNat * 8)) = some (.int .u32 x30) ∧ w7.cell? ((q29.add ((x6).toNat * 8)).add 1) = some (.int .i64 x31) ∧ w7.cell? ((q29.add ((x6).toNat * 8)).add 2) = some (.string s32) ∧ w7.cell? ((q29.add ((x6).toNat * 8)).add 3) = some (.int .i64 x33) ∧ w7.cell? ((q29.add ((x6).toNat * 8)).add 4) = some (.int .i64 x34) ∧ w7.cell? ((q29.add ((x6).toNat * 8)).add 5) = some (.int .i64 x35) ∧ w7.cell? ((q29.add ((x6).toNat * 8)).add 6) = some (.int .i64 x36) ∧ w7.cell? ((q29.add ((x6).toNat * 8)).add 7) = some (.int .i64 x37) ∧ True) ∧ st w7 ⟨k4, 0, none⟩ (.int .u32 x30) fun w38 => st w38 ⟨k4, 1, none⟩ (.int .i64 x31) fun w39 => st w39 ⟨k4, 2, none⟩ (.string s32) fun w40 => st w40 ⟨k4, 3, none⟩ (.int .i64 x33) fun w41 => st w41 ⟨k4, 4, none⟩ (.int .i64 x34) fun w42 => st w42 ⟨k4, 5, none⟩ (.int .i64 x35) fun w43 => st w43 ⟨k4, 6, none⟩ (.int .i64 x36) fun w44 => st w44 ⟨k4, 7, none⟩ (.int .i64 x37) fun w45 => ∃ (x46 : Int) (x47 : Int) (s48 : ByteArray) (x49 : Int) (x50 : Int) (x51 : Int) (x52 : Int) (x53 : Int), (w45.cell? ⟨k4, 0, none⟩ = some (.int .u32 x46) ∧ w45.cell? ⟨k4, 1, none⟩ = some (.int .i64 x47) ∧ w45.cell? ⟨k4, 2, none⟩ = some (.string s48) ∧ w45.cell? ⟨k4, 3, none⟩ = some (.int .i64 x49) ∧ w45.cell? ⟨k4, 4, none⟩ = some (.int .i64 x50) ∧ w45.cell? ⟨k4, 5, none⟩ = some (.int .i64 x51) ∧ w45.cell? ⟨k4, 6, none⟩ = some (.int .i64 x52) ∧ w45.cell? ⟨k4, 7, none⟩ = some (.int .i64 x53) ∧ True) ∧ Rt (.tuple #[(.agg #[(.int .u32 x46), (.int .i64 x47), (.string s48), (.int .i64 x49), (.int .i64 x50), (.int .i64 x51), (.int .i64 x52), (.int .i64 x53)]), (.int .i64 0)]) w45))) E)
def A83 : Ann := fun _ => []
theorem B83_eq (p1 : Option Addr) (x2 : Int) (w3 : World) (Rt : Value → World → Prop) (E : List PanicEntry → World → Prop) : vFn Cz A83 Tryz.f83.results.toList (bodyOf Tryz.f83) (startFr Tryz.f83.ntmps [(.pointer p1), (.int .u32 x2)]) w3 (CP Rt E) = B83 p1 x2 w3 Rt E := by kernel_rfl
theorem C83 {p1 : Option Addr} {x2 : Int} {w3 : World} {Rt : Value → World → Prop} {E : List PanicEntry → World → Prop} (h : B83 p1 x2 w3 Rt E) : Calls Cz.P 83 #[(.pointer p1), (.int .u32 x2)] w3 (CP Rt E) := calls_of_B (C := Cz) Cz.ok Tryz.func83 (by kernel_rfl) (B83_eq p1 x2 w3 Rt E) h


end Go.Lf
end

section
set_option linter.unusedVariables false
set_option maxRecDepth 100000
set_option maxHeartbeats 4000000
namespace Go.Lf
open Go Go.Proofs
/-! ### (*lessor/lessorref13.Store).note: function 84 -/
def B84_j1 (Rt : Value → World → Prop) (x8 : Int) (w13 : World) : Prop :=
  Rt (.int .i64 x8) w13
def B84 (p1 : Option Addr) (a2 : Option Addr) (n3 : Nat) (c4 : Nat) (w5 : World) (Rt : Value → World → Prop) (E : List PanicEntry → World → Prop) : Prop :=
  nn p1 fun q6 => ∃ (p7 : Option Addr), w5.cell? q6 = some (.pointer p7) ∧ Calls Cz.P 116 #[(.pointer p7), (.slice a2 n3 c4)] w5 (CP (fun r10 w9 => ∃ (x8 : Int), r10 = (.int .i64 x8) ∧ ifB (x8 == 0) (Calls Cz.P 45 #[(.pointer p1), (.slice a2 n3 c4)] w9 (CP (fun r12 w11 => r12 = (.tuple #[]) ∧ B84_j1 Rt x8 w11) E)) (B84_j1 Rt x8 w9)) E)
def A84 : Ann := fun _ => []
theorem B84_eq (p1 : Option Addr) (a2 : Option Addr) (n3 : Nat) (c4 : Nat) (w5 : World) (Rt : Value → World → Prop) (E : List PanicEntry → World → Prop) : vFn Cz A84 Tryz.f84.results.toList (bodyOf Tryz.f84) (startFr Tryz.f84.ntmps [(.pointer p1), (.slice a2 n3 c4)]) w5 (CP Rt E) = B84 p1 a2 n3 c4 w5 Rt E := by kernel_rfl
theorem C84 {p1 : Option Addr} {a2 : Option Addr} {n3 : Nat} {c4 : Nat} {w5 : World} {Rt : Value → World → Prop} {E : List PanicEntry → World → Prop} (h : B84 p1 a2 n3 c4 w5 Rt E) : Calls Cz.P 84 #[(.pointer p1), (.slice a2 n3 c4)] w5 (CP Rt E) := calls_of_B (C := Cz) Cz.ok Tryz.func84 (by kernel_rfl) (B84_eq p1 a2 n3 c4 w5 Rt E) h


end Go.Lf
end

section
set_option linter.unusedVariables false
set_option maxRecDepth 100000
set_option maxHeartbeats 4000000
namespace Go.Lf
open Go Go.Proofs
/-! ### lessor/lessorref13.bytes: function 85 -/
def B85 (x1 : Int) (x2 : Int) (s3 : ByteArray) (x4 : Int) (x5 : Int) (x6 : Int) (x7 : Int) (x8 : Int) (w9 : World) (Rt : Value → World → Prop) (E : List PanicEntry → World → Prop) : Prop :=
  nw w9 (.cells #[(.int .u32 x1), (.int .i64 x2), (.string s3), (.int .i64 x4), (.int .i64 x5), (.int .i64 x6), (.int .i64 x7), (.int .i64 x8)] 49) fun k10 w11 => ∃ (x12 : Int) (x13 : Int) (s14 : ByteArray) (x15 : Int) (x16 : Int) (x17 : Int) (x18 : Int) (x19 : Int), (w11.cell? ⟨k10, 0, none⟩ = some (.int .u32 x12) ∧ w11.cell? ⟨k10, 1, none⟩ = some (.int .i64 x13) ∧ w11.cell? ⟨k10, 2, none⟩ = some (.string s14) ∧ w11.cell? ⟨k10, 3, none⟩ = some (.int .i64 x15) ∧ w11.cell? ⟨k10, 4, none⟩ = some (.int .i64 x16) ∧ w11.cell? ⟨k10, 5, none⟩ = some (.int .i64 x17) ∧ w11.cell? ⟨k10, 6, none⟩ = some (.int .i64 x18) ∧ w11.cell? ⟨k10, 7, none⟩ = some (.int .i64 x19) ∧ True) ∧ Calls Cz.P 113 #[(.agg #[(.int .u32 x12), (.int .i64 x13), (.string s14), (.int .i64 x15), (.int .i64 x16), (.int .i64 x17), (.int .i64 x18), (.int .i64 x19)])] w11 (CP (fun r25 w24 => ∃ (a20 : Option Addr) (n21 : Nat) (c22 : Nat) (x23 : Int), r25 = (.tuple #[(.slice a20 n21 c22), (.int .i64 x23)]) ∧ ∃ (a26 : Option Addr) (n27 : Nat) (c28 : Nat), ∃ w29 : World, Sem.run Cz.P (Instr.buildSlice 22 1 #[(0, (.int .u8 76))]) w24 = .ok (.slice a26 n27 c28) w29 ∧ ∃ (a30 : Option Addr) (n31 : Nat) (c32 : Nat), ∃ w33 : World, Sem.run Cz.P (Builtin.append_ #[22, 22] 22 #[(.slice a26 n27 c28), (.slice a20 n21 c22)]) w29 = .ok (.slice a30 n31 c32) w33 ∧ Rt (.slice a30 n31 c32) w33) E)
def A85 : Ann := fun _ => []
theorem B85_eq (x1 : Int) (x2 : Int) (s3 : ByteArray) (x4 : Int) (x5 : Int) (x6 : Int) (x7 : Int) (x8 : Int) (w9 : World) (Rt : Value → World → Prop) (E : List PanicEntry → World → Prop) : vFn Cz A85 Tryz.f85.results.toList (bodyOf Tryz.f85) (startFr Tryz.f85.ntmps [(.agg #[(.int .u32 x1), (.int .i64 x2), (.string s3), (.int .i64 x4), (.int .i64 x5), (.int .i64 x6), (.int .i64 x7), (.int .i64 x8)])]) w9 (CP Rt E) = B85 x1 x2 s3 x4 x5 x6 x7 x8 w9 Rt E := by kernel_rfl
theorem C85 {x1 : Int} {x2 : Int} {s3 : ByteArray} {x4 : Int} {x5 : Int} {x6 : Int} {x7 : Int} {x8 : Int} {w9 : World} {Rt : Value → World → Prop} {E : List PanicEntry → World → Prop} (h : B85 x1 x2 s3 x4 x5 x6 x7 x8 w9 Rt E) : Calls Cz.P 85 #[(.agg #[(.int .u32 x1), (.int .i64 x2), (.string s3), (.int .i64 x4), (.int .i64 x5), (.int .i64 x6), (.int .i64 x7), (.int .i64 x8)])] w9 (CP Rt E) := calls_of_B (C := Cz) Cz.ok Tryz.func85 (by kernel_rfl) (B85_eq x1 x2 s3 x4 x5 x6 x7 x8 w9 Rt E) h


end Go.Lf
end
