/- Part 11 of the lemmas that a proof leans on; no claim is made here. By an AI agent. -/
import Derived.Test.YtofhodpdfbnkiaaGreatLfD07
section
set_option linter.unusedVariables false
set_option maxRecDepth 100000
set_option maxHeartbeats 4000000
namespace Go.Lf
open Go Go.Proofs
/-! ### (*lessor/lessorref10.Log).Records: function 44 -/
def B44 (p1 : Option Addr) (w2 : World) (Rt : Value → World → Prop) (E : List PanicEntry → World → Prop) : Prop :=
  nn p1 fun q3 => ∃ (p4 : Option Addr), w2.cell? q3 = some (.pointer p4) ∧ nn p4 fun q5 => ∃ (a6 : Option Addr) (n7 : Nat) (c8 : Nat), w2.cell? (q5.add 1) = some (.slice a6 n7 c8) ∧ Calls Cz.P 78 #[(.slice a6 n7 c8)] w2 (CP (fun r14 w13 => ∃ (a9 : Option Addr) (n10 : Nat) (c11 : Nat) (x12 : Int), r14 = (.tuple #[(.slice a9 n10 c11), (.int .i64 x12)]) ∧ Rt (.slice a9 n10 c11) w13) E)
def A44 : Ann := fun _ => []
theorem B44_eq (p1 : Option Addr) (w2 : World) (Rt : Value → World → Prop) (E : List PanicEntry → World → Prop) : vFn Cz A44 Tryz.f44.results.toList (bodyOf Tryz.f44) (startFr Tryz.f44.ntmps [(.pointer p1)]) w2 (CP Rt E) = B44 p1 w2 Rt E := by kernel_rfl
theorem C44 {p1 : Option Addr} {w2 : World} {Rt : Value → World → Prop} {E : List PanicEntry → World → Prop} (h : B44 p1 w2 Rt E) : Calls Cz.P 44 #[(.pointer p1)] w2 (CP Rt E) := calls_of_B (C := Cz) Cz.ok Tryz.func44 (by kernel_rfl) (B44_eq p1 w2 Rt E) h


end Go.Lf
end

section
set_option linter.unusedVariables false
set_option maxRecDepth 100000
set_option maxHeartbeats 4000000
namespace Go.Lf
open Go Go.Proofs
/-! ### (*lessor/lessorref13.Store).do: function 45 -/
def B45_j7 (Rt : Value → World → Prop) (w70 : World) : Prop :=
  Rt (.tuple #[]) w70
def B45_j1 (Rt : Value → World → Prop) (w43 : World) : Prop :=
  B45_j7 Rt w43
def B45_j6 (Rt : Value → World → Prop) (w69 : World) : Prop :=
  B45_j7 Rt w69
def B45_j5 (Rt : Value → World → Prop) (w68 : World) : Prop :=
  B45_j6 Rt w68
def B45_j4 (Rt : Value → World → Prop) (w67 : World) : Prop :=
  B45_j5 Rt w67
def B45_l1 (Rt : Value → World → Prop) (p1 : Option Addr) (a2 : Option Addr) (n3 : Nat) (J58 : List Value → World → Prop) (m59 : List Value → World → Nat) (x60 : Int) (x61 : Int) (w62 : World) : Prop :=
  ifB (decide (x61 < 5)) (need (decide (0 ≤ x61) && decide (x61 < (n3 : Int))) (nn a2 fun q63 => ∃ (x64 : Int), w62.cell? (q63.add ((x61).toNat * 1)) = some (.int .u8 x64) ∧ J58 [(.int .i64 (IntKind.i64.wrap ((IntKind.i64.wrap (x60 * 256)) + (IntKind.i64.wrap x64)))), (.int .i64 (IntKind.i64.wrap (x61 + 1)))] w62 ∧ m59 [(.int .i64 (IntKind.i64.wrap ((IntKind.i64.wrap (x60 * 256)) + (IntKind.i64.wrap x64)))), (.int .i64 (IntKind.i64.wrap (x61 + 1)))] w62 < m59 [(.int .i64 x60), (.int .i64 x61)] w62)) (ifB (decide (x60 ≤ 536870912)) (nn p1 fun q65 => st w62 (q65.add 3) (.int .i64 x60) fun w66 => B45_j4 Rt w66) (B45_j4 Rt w62))
def B45_j3 (Rt : Value → World → Prop) (p1 : Option Addr) (a2 : Option Addr) (n3 : Nat) (b56 : Bool) (w57 : World) : Prop :=
  ifB b56 (∃ (J58 : List Value → World → Prop) (m59 : List Value → World → Nat), J58 [(.int .i64 0), (.int .i64 1)] w57 ∧ ∀ (x60 : Int) (x61 : Int) (w62 : World), J58 [(.int .i64 x60), (.int .i64 x61)] w62 → B45_l1 Rt p1 a2 n3 J58 m59 x60 x61 w62) (B45_j5 Rt w57)
def B45_j2 (Rt : Value → World → Prop) (p1 : Option Addr) (a2 : Option Addr) (n3 : Nat) (b48 : Bool) (w49 : World) : Prop :=
  ifB b48 (need (decide (0 ≤ (1 : Int)) && decide ((1 : Int) < (n3 : Int))) (nn a2 fun q50 => ∃ (x51 : Int), w49.cell? (q50.add 1) = some (.int .u8 x51) ∧ nn p1 fun q52 => st w49 (q52.add 2) (.int .i64 (IntKind.i64.wrap x51)) fun w53 => B45_j6 Rt w53)) (need (decide (0 ≤ (0 : Int)) && decide ((0 : Int) < (n3 : Int))) (nn a2 fun q54 => ∃ (x55 : Int), w49.cell? q54 = some (.int .u8 x55) ∧ ifB (x55 == 70) (B45_j3 Rt p1 a2 n3 ((n3 : Int) == 5) w49) (B45_j3 Rt p1 a2 n3 false w49)))
def B45 (p1 : Option Addr) (a2 : Option Addr) (n3 : Nat) (c4 : Nat) (w5 : World) (Rt : Value → World → Prop) (E : List PanicEntry → World → Prop) : Prop :=
  ifB ((n3 : Int) == 0) (Rt (.tuple #[]) w5) (need (decide (0 ≤ (0 : Int)) && decide ((0 : Int) < (n3 : Int))) (nn a2 fun q6 => ∃ (x7 : Int), w5.cell? q6 = some (.int .u8 x7) ∧ ifB (x7 == 76) (need (decide ((0 : Int) ≤ (n3 : Int)) && decide ((n3 : Int) ≤ (c4 : Int))) (need (true && decide ((1 : Int) ≤ (n3 : Int))) (Calls Cz.P 80 #[(.slice (slA a2 1 c4 1) (((n3 : Int)).toNat - 1) (c4 - 1))] w5 (CP (fun r18 w17 => ∃ (x8 : Int) (x9 : Int) (s10 : ByteArray) (x11 : Int) (x12 : Int) (x13 : Int) (x14 : Int) (x15 : Int) (x16 : Int), r18 = (.tuple #[(.agg #[(.int .u32 x8), (.int .i64 x9), (.string s10), (.int .i64 x11), (.int .i64 x12), (.int .i64 x13), (.int .i64 x14), (.int .i64 x15)]), (.int .i64 x16)]) ∧ nw w17 (.cells #[(.int .u32 0), (.int .i64 0), (.string ⟨#[]⟩), (.int .i64 0), (.int .i64 0), (.int .i64 0), (.int .i64 0), (.int .i64 0)] 49) fun k19 w20 => st w20 ⟨k19, 0, none⟩ (.int .u32 x8) fun w21 => st w21 ⟨k19, 1, none⟩ (.int .i64 x9) fun w22 => st w22 ⟨k19, 2, none⟩ (.string s10) fun w23 => st w23 ⟨k19, 3, none⟩ (.int .i64 x11) fun w24 => st w24 ⟨k19, 4, none⟩ (.int .i64 x12) fun w25 => st w25 ⟨k19, 5, none⟩ (.int .i64 x13) fun w26 => st w26 ⟨k19, 6, none⟩ (.int .i64 x14) fun w27 => st w27 ⟨k19, 7, none⟩ (.int .i64 x15) fun w28 => ifB (x16 == 0) ((fun w29 : World => nn p1 fun q30 => ∃ (p31 : Option Addr), w29.cell? (q30.add 1) = some (.pointer p31) ∧ ∃ (x32 : Int) (x33 : Int) (s34 : ByteArray) (x35 : Int) (x36 : Int) (x37 : Int) (x38 : Int) (x39 : Int), (w29.cell? ⟨k19, 0, none⟩ = some (.int .u32 x32) ∧ w29.cell? ⟨k19, 1, none⟩ = some (.int .i64 x33) ∧ w29.cell? ⟨k19, 2, none⟩ = some (.string s34) ∧ w29.cell? ⟨k19, 3, none⟩ = some (.int .i64 x35) ∧ w29.cell? ⟨k19, 4, none⟩ = some (.int .i64 x36) ∧ w29.cell? ⟨k19, 5, none⟩ = some (.int .i64 x37) ∧ w29.cell? ⟨k19, 6, none⟩ = some (.int .i64 x38) ∧ w29.cell? ⟨k19, 7, none⟩ = some (.int .i64 x39) ∧ True) ∧ (Calls Cz.P 81 #[(.pointer p31), (.agg #[(.int .u32 x32), (.int .i64 x33), (.string s34), (.int .i64 x35), (.int .i64 x36), (.int .i64 x37), (.int .i64 x38), (.int .i64 x39)])] w29 (CP (fun r42 w41 => ∃ (x40 : Int), r42 = (.int .i64 x40) ∧ B45_j1 Rt w41) (fun _ _ => False)))) (w28.drew)) (B45_j1 Rt w28)) E)))) (need (decide (0 ≤ (0 : Int)) && decide ((0 : Int) < (n3 : Int))) (nn a2 fun q44 => ∃ (x45 : Int), w5.cell? q44 = some (.int .u8 x45) ∧ ifB (x45 == 83) (ifB ((n3 : Int) == 2) (need (decide (0 ≤ (1 : Int)) && decide ((1 : Int) < (n3 : Int))) (nn a2 fun q46 => ∃ (x47 : Int), w5.cell? (q46.add 1) = some (.int .u8 x47) ∧ B45_j2 Rt p1 a2 n3 (decide (x47 ≤ 8)) w5)) (B45_j2 Rt p1 a2 n3 false w5)) (B45_j2 Rt p1 a2 n3 false w5)))))
def A45 : Ann := fun n => match n with | 0 => [(6, .one (.int .i64)), (7, .one (.int .i64))] | _ => []
theorem B45_eq (p1 : Option Addr) (a2 : Option Addr) (n3 : Nat) (c4 : Nat) (w5 : World) (Rt : Value → World → Prop) (E : List PanicEntry → World → Prop) : vFn Cz A45 Tryz.f45.results.toList (bodyOf Tryz.f45) (startFr Tryz.f45.ntmps [(.pointer p1), (.slice a2 n3 c4)]) w5 (CP Rt E) = B45 p1 a2 n3 c4 w5 Rt E := by kernel_rfl
theorem C45 {p1 : Option Addr} {a2 : Option Addr} {n3 : Nat} {c4 : Nat} {w5 : World} {Rt : Value → World → Prop} {E : List PanicEntry → World → Prop} (h : B45 p1 a2 n3 c4 w5 Rt E) : Calls Cz.P 45 #[(.pointer p1), (.slice a2 n3 c4)] w5 (CP Rt E) := calls_of_B (C := Cz) Cz.ok Tryz.func45 (by kernel_rfl) (B45_eq p1 a2 n3 c4 w5 Rt E) h


end Go.Lf
end

section
set_option linter.unusedVariables false
set_option maxRecDepth 100000
set_option maxHeartbeats 4000000
namespace Go.Lf
open Go Go.Proofs
/-! ### (*lessor/lessorref13.Store).Put: function 46 -/
def B46 (p1 : Option Addr) (x2 : Int) (x3 : Int) (s4 : ByteArray) (x5 : Int) (x6 : Int) (x7 : Int) (x8 : Int) (x9 : Int) (w10 : World) (Rt : Value → World → Prop) (E : List PanicEntry → World → Prop) : Prop :=
  nw w10 (.cells #[(.int .u32 x2), (.int .i64 x3), (.string s4), (.int .i64 x5), (.int .i64 x6), (.int .i64 x7), (.int .i64 x8), (.int .i64 x9)] 49) fun k11 w12 => ∃ (x13 : Int) (x14 : Int) (s15 : ByteArray) (x16 : Int) (x17 : Int) (x18 : Int) (x19 : Int) (x20 : Int), (w12.cell? ⟨k11, 0, none⟩ = some (.int .u32 x13) ∧ w12.cell? ⟨k11, 1, none⟩ = some (.int .i64 x14) ∧ w12.cell? ⟨k11, 2, none⟩ = some (.string s15) ∧ w12.cell? ⟨k11, 3, none⟩ = some (.int .i64 x16) ∧ w12.cell? ⟨k11, 4, none⟩ = some (.int .i64 x17) ∧ w12.cell? ⟨k11, 5, none⟩ = some (.int .i64 x18) ∧ w12.cell? ⟨k11, 6, none⟩ = some (.int .i64 x19) ∧ w12.cell? ⟨k11, 7, none⟩ = some (.int .i64 x20) ∧ True) ∧ Calls Cz.P 82 #[(.agg #[(.int .u32 x13), (.int .i64 x14), (.string s15), (.int .i64 x16), (.int .i64 x17), (.int .i64 x18), (.int .i64 x19), (.int .i64 x20)])] w12 (CP (fun r23 w22 => ∃ (b21 : Bool), r23 = (.bool b21) ∧ ifB (!b21) (Rt (.int .i64 1) w22) (∃ (J24 : List Value → World → Prop), ((fun w25 : World => nn p1 fun q26 => ∃ (p27 : Option Addr), w25.cell? (q26.add 1) = some (.pointer p27) ∧ ∃ (x28 : Int), w25.cell? ⟨k11, 0, none⟩ = some (.int .u32 x28) ∧ (Calls Cz.P 83 #[(.pointer p27), (.int .u32 x28)] w25 (CP (fun r39 w38 => ∃ (x29 : Int) (x30 : Int) (s31 : ByteArray) (x32 : Int) (x33 : Int) (x34 : Int) (x35 : Int) (x36 : Int) (x37 : Int), r39 = (.tuple #[(.agg #[(.int .u32 x29), (.int .i64 x30), (.string s31), (.int .i64 x32), (.int .i64 x33), (.int .i64 x34), (.int .i64 x35), (.int .i64 x36)]), (.int .i64 x37)]) ∧ (nw w38 (.cells #[(.int .u32 0), (.int .i64 0), (.string ⟨#[]⟩), (.int .i64 0), (.int .i64 0), (.int .i64 0), (.int .i64 0), (.int .i64 0)] 49) fun k40 w41 => (True) ∧ (st w41 ⟨k40, 0, none⟩ (.int .u32 x29) fun w42 => st w42 ⟨k40, 1, none⟩ (.int .i64 x30) fun w43 => st w43 ⟨k40, 2, none⟩ (.string s31) fun w44 => st w44 ⟨k40, 3, none⟩ (.int .i64 x32) fun w45 => st w45 ⟨k40, 4, none⟩ (.int .i64 x33) fun w46 => st w46 ⟨k40, 5, none⟩ (.int .i64 x34) fun w47 => st w47 ⟨k40, 6, none⟩ (.int .i64 x35) fun w48 => st w48 ⟨k40, 7, none⟩ (.int .i64 x36) fun w49 => (True) ∧ J24 [(.int .i64 x37)] w49))) (fun _ _ => False))) ∧ (nw w25 (.cells #[(.int .u32 0), (.int .i64 0), (.string ⟨#[]⟩), (.int .i64 0), (.int .i64 0), (.int .i64 0), (.int .i64 0), (.int .i64 0)] 49) fun k50 w51 => ((w51.cell? ⟨k11, 0, none⟩ = w25.cell? ⟨k11, 0, none⟩ ∧ True) ∧ (w51.cell? (q26.add 1) = w25.cell? (q26.add 1) ∧ True) ∧ True) ∧ (Calls Cz.P 83 #[(.pointer p27), (.int .u32 x28)] w51 (CP (fun r62 w61 => ∃ (x52 : Int) (x53 : Int) (s54 : ByteArray) (x55 : Int) (x56 : Int) (x57 : Int) (x58 : Int) (x59 : Int) (x60 : Int), r62 = (.tuple #[(.agg #[(.int .u32 x52), (.int .i64 x53), (.string s54), (.int .i64 x55), (.int .i64 x56), (.int .i64 x57), (.int .i64 x58), (.int .i64 x59)]), (.int .i64 x60)]) ∧ (st w61 ⟨k50, 0, none⟩ (.int .u32 x52) fun w63 => st w63 ⟨k50, 1, none⟩ (.int .i64 x53) fun w64 => st w64 ⟨k50, 2, none⟩ (.string s54) fun w65 => st w65 ⟨k50, 3, none⟩ (.int .i64 x55) fun w66 => st w66 ⟨k50, 4, none⟩ (.int .i64 x56) fun w67 => st w67 ⟨k50, 5, none⟩ (.int .i64 x57) fun w68 => st w68 ⟨k50, 6, none⟩ (.int .i64 x58) fun w69 => st w69 ⟨k50, 7, none⟩ (.int .i64 x59) fun w70 => (True) ∧ J24 [(.int .i64 x60)] w70)) (fun _ _ => False))))) (w22.drew)) ∧ ∀ (x71 : Int) (w72 : World), J24 [(.int .i64 x71)] w72 → ifB (x71 != 0) (Rt (.int .i64 x71) w72) (∃ (x73 : Int) (x74 : Int) (s75 : ByteArray) (x76 : Int) (x77 : Int) (x78 : Int) (x79 : Int) (x80 : Int), (w72.cell? ⟨k11, 0, none⟩ = some (.int .u32 x73) ∧ w72.cell? ⟨k11, 1, none⟩ = some (.int .i64 x74) ∧ w72.cell? ⟨k11, 2, none⟩ = some (.string s75) ∧ w72.cell? ⟨k11, 3, none⟩ = some (.int .i64 x76) ∧ w72.cell? ⟨k11, 4, none⟩ = some (.int .i64 x77) ∧ w72.cell? ⟨k11, 5, none⟩ = some (.int .i64 x78) ∧ w72.cell? ⟨k11, 6, none⟩ = some (.int .i64 x79) ∧ w72.cell? ⟨k11, 7, none⟩ = some (.int .i64 x80) ∧ True) ∧ Calls Cz.P 85 #[(.agg #[(.int .u32 x73), (.int .i64 x74), (.string s75), (.int .i64 x76), (.int .i64 x77), (.int .i64 x78), (.int .i64 x79), (.int .i64 x80)])] w72 (CP (fun r85 w84 => ∃ (a81 : Option Addr) (n82 : Nat) (c83 : Nat), r85 = (.slice a81 n82 c83) ∧ Calls Cz.P 84 #[(.pointer p1), (.slice a81 n82 c83)] w84 (CP (fun r88 w87 => ∃ (x86 : Int), r88 = (.int .i64 x86) ∧ Rt (.int .i64 x86) w87) E)) E)))) E)
def A46 : Ann := fun n => match n with | 1000004 => [(0, .one .any)] | 2000004 => [(7, .one (.int .i64))] | _ => []
theorem B46_eq (p1 : Option Addr) (x2 : Int) (x3 : Int) (s4 : ByteArray) (x5 : Int) (x6 : Int) (x7 : Int) (x8 : Int) (x9 : Int) (w10 : World) (Rt : Value → World → Prop) (E : List PanicEntry → World → Prop) : vFn Cz A46 Tryz.f46.results.toList (bodyOf Tryz.f46) (startFr Tryz.f46.ntmps [(.pointer p1), (.agg #[(.int .u32 x2), (.int .i64 x3), (.string s4), (.int .i64 x5), (.int .i64 x6), (.int .i64 x7), (.int .i64 x8), (.int .i64 x9)])]) w10 (CP Rt E) = B46 p1 x2 x3 s4 x5 x6 x7 x8 x9 w10 Rt E := by kernel_rfl
theorem C46 {p1 : Option Addr} {x2 : Int} {x3 : Int} {s4 : ByteArray} {x5 : Int} {x6 : Int} {x7 : Int} {x8 : Int} {x9 : Int} {w10 : World} {Rt : Value → World → Prop} {E : List PanicEntry → World → Prop} (h : B46 p1 x2 x3 s4 x5 x6 x7 x8 x9 w10 Rt E) : Calls Cz.P 46 #[(.pointer p1), (.agg #[(.int .u32 x2), (.int .i64 x3), (.string s4), (.int .i64 x5), (.int .i64 x6), (.int .i64 x7), (.int .i64 x8), (.int .i64 x9)])] w10 (CP Rt E) := calls_of_B (C := Cz) Cz.ok Tryz.func46 (by kernel_rfl) (B46_eq p1 x2 x3 s4 x5 x6 x7 x8 x9 w10 Rt E) h


end Go.Lf
end

section
set_option linter.unusedVariables false
set_option maxRecDepth 100000
set_option maxHeartbeats 4000000
namespace Go.Lf
open Go Go.Proofs
/-! ### (*lessor/lessorref13.Store).SetState: function 47 -/
def B47_j1 (Rt : Value → World → Prop) (E : List PanicEntry → World → Prop) (p1 : Option Addr) (x2 : Int) (b4 : Bool) (w5 : World) : Prop :=
  ifB b4 (Rt (.int .i64 1) w5) (∃ (a6 : Option Addr) (n7 : Nat) (c8 : Nat), ∃ w9 : World, Sem.run Cz.P (Instr.buildSlice 22 2 #[(0, (.int .u8 83)), (1, (.int .u8 (IntKind.u8.wrap x2)))]) w5 = .ok (.slice a6 n7 c8) w9 ∧ Calls Cz.P 84 #[(.pointer p1), (.slice a6 n7 c8)] w9 (CP (fun r12 w11 => ∃ (x10 : Int), r12 = (.int .i64 x10) ∧ Rt (.int .i64 x10) w11) E))
def B47 (p1 : Option Addr) (x2 : Int) (w3 : World) (Rt : Value → World → Prop) (E : List PanicEntry → World → Prop) : Prop :=
  ifB (decide (x2 < 0)) (B47_j1 Rt E p1 x2 true w3) (B47_j1 Rt E p1 x2 (decide (x2 > 8)) w3)
def A47 : Ann := fun _ => []
theorem B47_eq (p1 : Option Addr) (x2 : Int) (w3 : World) (Rt : Value → World → Prop) (E : List PanicEntry → World → Prop) : vFn Cz A47 Tryz.f47.results.toList (bodyOf Tryz.f47) (startFr Tryz.f47.ntmps [(.pointer p1), (.int .i64 x2)]) w3 (CP Rt E) = B47 p1 x2 w3 Rt E := by kernel_rfl
theorem C47 {p1 : Option Addr} {x2 : Int} {w3 : World} {Rt : Value → World → Prop} {E : List PanicEntry → World → Prop} (h : B47 p1 x2 w3 Rt E) : Calls Cz.P 47 #[(.pointer p1), (.int .i64 x2)] w3 (CP Rt E) := calls_of_B (C := Cz) Cz.ok Tryz.func47 (by kernel_rfl) (B47_eq p1 x2 w3 Rt E) h


end Go.Lf
end

section
set_option linter.unusedVariables false
set_option maxRecDepth 100000
set_option maxHeartbeats 4000000
namespace Go.Lf
open Go Go.Proofs
/-! ### (*lessor/lessorref13.Store).SetLife: function 48 -/
def B48_j1 (Rt : Value → World → Prop) (E : List PanicEntry → World → Prop) (p1 : Option Addr) (x2 : Int) (b4 : Bool) (w5 : World) : Prop :=
  ifB b4 (Rt (.int .i64 1) w5) (Calls Cz.P 86 #[(.int .i64 x2)] w5 (CP (fun r10 w9 => ∃ (a6 : Option Addr) (n7 : Nat) (c8 : Nat), r10 = (.slice a6 n7 c8) ∧ Calls Cz.P 84 #[(.pointer p1), (.slice a6 n7 c8)] w9 (CP (fun r13 w12 => ∃ (x11 : Int), r13 = (.int .i64 x11) ∧ Rt (.int .i64 x11) w12) E)) E))
def B48 (p1 : Option Addr) (x2 : Int) (w3 : World) (Rt : Value → World → Prop) (E : List PanicEntry → World → Prop) : Prop :=
  ifB (decide (x2 < 0)) (B48_j1 Rt E p1 x2 true w3) (B48_j1 Rt E p1 x2 (decide (x2 > 536870912)) w3)
def A48 : Ann := fun _ => []
theorem B48_eq (p1 : Option Addr) (x2 : Int) (w3 : World) (Rt : Value → World → Prop) (E : List PanicEntry → World → Prop) : vFn Cz A48 Tryz.f48.results.toList (bodyOf Tryz.f48) (startFr Tryz.f48.ntmps [(.pointer p1), (.int .i64 x2)]) w3 (CP Rt E) = B48 p1 x2 w3 Rt E := by kernel_rfl
theorem C48 {p1 : Option Addr} {x2 : Int} {w3 : World} {Rt : Value → World → Prop} {E : List PanicEntry → World → Prop} (h : B48 p1 x2 w3 Rt E) : Calls Cz.P 48 #[(.pointer p1), (.int .i64 x2)] w3 (CP Rt E) := calls_of_B (C := Cz) Cz.ok Tryz.func48 (by kernel_rfl) (B48_eq p1 x2 w3 Rt E) h


end Go.Lf
end

section
set_option linter.unusedVariables false
set_option maxRecDepth 100000
set_option maxHeartbeats 4000000
namespace Go.Lf
open Go Go.Proofs
/-! ### (*lessor/lessorref13.Store).Sync: function 49 -/
def B49 (p1 : Option Addr) (w2 : World) (Rt : Value → World → Prop) (E : List PanicEntry → World → Prop) : Prop :=
  nn p1 fun q3 => ∃ (p4 : Option Addr), w2.cell? q3 = some (.pointer p4) ∧ nn p4 fun q5 => ∃ (p6 : Option Addr), w2.cell? q5 = some (.pointer p6) ∧ Calls Cz.P 87 #[(.pointer p6)] w2 (CP (fun r9 w8 => ∃ (x7 : Int), r9 = (.int .i64 x7) ∧ Rt (.int .i64 x7) w8) E)
def A49 : Ann := fun _ => []
theorem B49_eq (p1 : Option Addr) (w2 : World) (Rt : Value → World → Prop) (E : List PanicEntry → World → Prop) : vFn Cz A49 Tryz.f49.results.toList (bodyOf Tryz.f49) (startFr Tryz.f49.ntmps [(.pointer p1)]) w2 (CP Rt E) = B49 p1 w2 Rt E := by kernel_rfl
theorem C49 {p1 : Option Addr} {w2 : World} {Rt : Value → World → Prop} {E : List PanicEntry → World → Prop} (h : B49 p1 w2 Rt E) : Calls Cz.P 49 #[(.pointer p1)] w2 (CP Rt E) := calls_of_B (C := Cz) Cz.ok Tryz.func49 (by kernel_rfl) (B49_eq p1 w2 Rt E) h


end Go.Lf
end

section
set_option linter.unusedVariables false
set_option maxRecDepth 100000
set_option maxHeartbeats 4000000
namespace Go.Lf
open Go Go.Proofs
/-! ### (*lessor/lessorref13.Store).Compact: function 50 -/
def B50_j1 (J39 : List Value → World → Prop) (m40 : List Value → World → Nat) (a41 : Option Addr) (n42 : Nat) (c43 : Nat) (x44 : Int) (w45 : World) (a114 : Option Addr) (n115 : Nat) (c116 : Nat) (w117 : World) : Prop :=
  J39 [(.slice a114 n115 c116), (.int .i64 (IntKind.i64.wrap (x44 + 1)))] w117 ∧ m40 [(.slice a114 n115 c116), (.int .i64 (IntKind.i64.wrap (x44 + 1)))] w117 < m40 [(.slice a41 n42 c43), (.int .i64 x44)] w45
def B50_l1 (Rt : Value → World → Prop) (E : List PanicEntry → World → Prop) (p1 : Option Addr) (J39 : List Value → World → Prop) (m40 : List Value → World → Nat) (a41 : Option Addr) (n42 : Nat) (c43 : Nat) (x44 : Int) (w45 : World) : Prop :=
  nn p1 fun q46 => ∃ (p47 : Option Addr), w45.cell? (q46.add 1) = some (.pointer p47) ∧ nn p47 fun q48 => ∃ (a49 : Option Addr) (n50 : Nat) (c51 : Nat), w45.cell? q48 = some (.slice a49 n50 c51) ∧ ifB (decide (x44 < (n50 : Int))) ((fun w52 : World => nn p1 fun q53 => ∃ (p54 : Option Addr), w52.cell? (q53.add 1) = some (.pointer p54) ∧ nn p54 fun q55 => ∃ (a56 : Option Addr) (n57 : Nat) (c58 : Nat), w52.cell? q55 = some (.slice a56 n57 c58) ∧ need (decide (0 ≤ x44) && decide (x44 < (n57 : Int))) (nn a56 fun q59 => ∃ (x60 : Int) (x61 : Int) (s62 : ByteArray) (x63 : Int) (x64 : Int) (x65 : Int) (x66 : Int) (x67 : Int), (w52.cell? (q59.add ((x44).toNat * 8)) = some (.int .u32 x60) ∧ w52.cell? ((q59.add ((x44).toNat * 8)).add 1) = some (.int .i64 x61) ∧ w52.cell? ((q59.add ((x44).toNat * 8)).add 2) = some (.string s62) ∧ w52.cell? ((q59.add ((x44).toNat * 8)).add 3) = some (.int .i64 x63) ∧ w52.cell? ((q59.add ((x44).toNat * 8)).add 4) = some (.int .i64 x64) ∧ w52.cell? ((q59.add ((x44).toNat * 8)).add 5) = some (.int .i64 x65) ∧ w52.cell? ((q59.add ((x44).toNat * 8)).add 6) = some (.int .i64 x66) ∧ w52.cell? ((q59.add ((x44).toNat * 8)).add 7) = some (.int .i64 x67) ∧ True) ∧ nn p1 fun q68 => ∃ (p69 : Option Addr), w52.cell? (q68.add 1) = some (.pointer p69) ∧ nn p69 fun q70 => ∃ (a71 : Option Addr) (n72 : Nat) (c73 : Nat), w52.cell? q70 = some (.slice a71 n72 c73) ∧ need (decide (0 ≤ x44) && decide (x44 < (n72 : Int))) (nn a71 fun q74 => ∃ (x75 : Int), w52.cell? (q74.add ((x44).toNat * 8)) = some (.int .u32 x75) ∧ (Calls Cz.P 77 #[(.int .u32 x75), (.int .i64 0), (.int .i64 0)] w52 (CP (fun r85 w84 => ∃ (x76 : Int) (x77 : Int) (s78 : ByteArray) (x79 : Int) (x80 : Int) (x81 : Int) (x82 : Int) (x83 : Int), r85 = (.agg #[(.int .u32 x76), (.int .i64 x77), (.string s78), (.int .i64 x79), (.int .i64 x80), (.int .i64 x81), (.int .i64 x82), (.int .i64 x83)]) ∧ ((w84.cell? (q59.add ((x44).toNat * 8)) = w52.cell? (q59.add ((x44).toNat * 8)) ∧ w84.cell? ((q59.add ((x44).toNat * 8)).add 1) = w52.cell? ((q59.add ((x44).toNat * 8)).add 1) ∧ w84.cell? ((q59.add ((x44).toNat * 8)).add 2) = w52.cell? ((q59.add ((x44).toNat * 8)).add 2) ∧ w84.cell? ((q59.add ((x44).toNat * 8)).add 3) = w52.cell? ((q59.add ((x44).toNat * 8)).add 3) ∧ w84.cell? ((q59.add ((x44).toNat * 8)).add 4) = w52.cell? ((q59.add ((x44).toNat * 8)).add 4) ∧ w84.cell? ((q59.add ((x44).toNat * 8)).add 5) = w52.cell? ((q59.add ((x44).toNat * 8)).add 5) ∧ w84.cell? ((q59.add ((x44).toNat * 8)).add 6) = w52.cell? ((q59.add ((x44).toNat * 8)).add 6) ∧ w84.cell? ((q59.add ((x44).toNat * 8)).add 7) = w52.cell? ((q59.add ((x44).toNat * 8)).add 7) ∧ True) ∧ (w84.cell? q55 = w52.cell? q55 ∧ True) ∧ (w84.cell? (q53.add 1) = w52.cell? (q53.add 1) ∧ True) ∧ True) ∧ ifB (!((x60 == x76) && ((x61 == x77) && ((s62.toList == s78.toList) && ((x63 == x79) && ((x64 == x80) && ((x65 == x81) && ((x66 == x82) && ((x67 == x83) && true))))))))) (nn p1 fun q86 => ∃ (p87 : Option Addr), w84.cell? (q86.add 1) = some (.pointer p87) ∧ nn p87 fun q88 => ∃ (a89 : Option Addr) (n90 : Nat) (c91 : Nat), w84.cell? q88 = some (.slice a89 n90 c91) ∧ need (decide (0 ≤ x44) && decide (x44 < (n90 : Int))) (nn a89 fun q92 => ∃ (x93 : Int) (x94 : Int) (s95 : ByteArray) (x96 : Int) (x97 : Int) (x98 : Int) (x99 : Int) (x100 : Int), (w84.cell? (q92.add ((x44).toNat * 8)) = some (.int .u32 x93) ∧ w84.cell? ((q92.add ((x44).toNat * 8)).add 1) = some (.int .i64 x94) ∧ w84.cell? ((q92.add ((x44).toNat * 8)).add 2) = some (.string s95) ∧ w84.cell? ((q92.add ((x44).toNat * 8)).add 3) = some (.int .i64 x96) ∧ w84.cell? ((q92.add ((x44).toNat * 8)).add 4) = some (.int .i64 x97) ∧ w84.cell? ((q92.add ((x44).toNat * 8)).add 5) = some (.int .i64 x98) ∧ w84.cell? ((q92.add ((x44).toNat * 8)).add 6) = some (.int .i64 x99) ∧ w84.cell? ((q92.add ((x44).toNat * 8)).add 7) = some (.int .i64 x100) ∧ True) ∧ Calls Cz.P 85 #[(.agg #[(.int .u32 x93), (.int .i64 x94), (.string s95), (.int .i64 x96), (.int .i64 x97), (.int .i64 x98), (.int .i64 x99), (.int .i64 x100)])] w84 (CP (fun r105 w104 => ∃ (a101 : Option Addr) (n102 : Nat) (c103 : Nat), r105 = (.slice a101 n102 c103) ∧ ∃ (a106 : Option Addr) (n107 : Nat) (c108 : Nat), ∃ w109 : World, Sem.run Cz.P (Instr.buildSlice 56 1 #[(0, (.slice a101 n102 c103))]) w104 = .ok (.slice a106 n107 c108) w109 ∧ ∃ (a110 : Option Addr) (n111 : Nat) (c112 : Nat), ∃ w113 : World, Sem.run Cz.P (Builtin.append_ #[56, 56] 56 #[(.slice a41 n42 c43), (.slice a106 n107 c108)]) w109 = .ok (.slice a110 n111 c112) w113 ∧ B50_j1 J39 m40 a41 n42 c43 x44 w45 a110 n111 c112 w113) E))) (B50_j1 J39 m40 a41 n42 c43 x44 w45 a41 n42 c43 w84)) (fun _ _ => False)))))) (w45.drew)) (nn p1 fun q118 => ∃ (p119 : Option Addr), w45.cell? q118 = some (.pointer p119) ∧ Calls Cz.P 88 #[(.pointer p119), (.slice a41 n42 c43)] w45 (CP (fun r122 w121 => ∃ (x120 : Int), r122 = (.int .i64 x120) ∧ Rt (.int .i64 x120) w121) E))
def B50 (p1 : Option Addr) (w2 : World) (Rt : Value → World → Prop) (E : List PanicEntry → World → Prop) : Prop :=
  ∃ (J3 : List Value → World → Prop), ((fun w4 : World => nn p1 fun q5 => ∃ (x6 : Int), w4.cell? (q5.add 2) = some (.int .i64 x6) ∧ nn p1 fun q7 => ∃ (x8 : Int), w4.cell? (q7.add 3) = some (.int .i64 x8) ∧ (∃ (a9 : Option Addr) (n10 : Nat) (c11 : Nat), ∃ w12 : World, Sem.run Cz.P (Instr.buildSlice 22 2 #[(0, (.int .u8 83)), (1, (.int .u8 (IntKind.u8.wrap x6)))]) w4 = .ok (.slice a9 n10 c11) w12 ∧ ((w12.cell? (q7.add 3) = w4.cell? (q7.add 3) ∧ True) ∧ True) ∧ (Calls Cz.P 86 #[(.int .i64 x8)] w12 (CP (fun r17 w16 => ∃ (a13 : Option Addr) (n14 : Nat) (c15 : Nat), r17 = (.slice a13 n14 c15) ∧ (∃ (a18 : Option Addr) (n19 : Nat) (c20 : Nat), ∃ w21 : World, Sem.run Cz.P (Instr.buildSlice 56 2 #[(0, (.slice a9 n10 c11)), (1, (.slice a13 n14 c15))]) w16 = .ok (.slice a18 n19 c20) w21 ∧ J3 [(.slice a18 n19 c20)] w21)) (fun _ _ => False)))) ∧ (Calls Cz.P 86 #[(.int .i64 x8)] w4 (CP (fun r26 w25 => ∃ (a22 : Option Addr) (n23 : Nat) (c24 : Nat), r26 = (.slice a22 n23 c24) ∧ ((w25.cell? (q5.add 2) = w4.cell? (q5.add 2) ∧ True) ∧ True) ∧ (∃ (a27 : Option Addr) (n28 : Nat) (c29 : Nat), ∃ w30 : World, Sem.run Cz.P (Instr.buildSlice 22 2 #[(0, (.int .u8 83)), (1, (.int .u8 (IntKind.u8.wrap x6)))]) w25 = .ok (.slice a27 n28 c29) w30 ∧ (∃ (a31 : Option Addr) (n32 : Nat) (c33 : Nat), ∃ w34 : World, Sem.run Cz.P (Instr.buildSlice 56 2 #[(0, (.slice a27 n28 c29)), (1, (.slice a22 n23 c24))]) w30 = .ok (.slice a31 n32 c33) w34 ∧ J3 [(.slice a31 n32 c33)] w34))) (fun _ _ => False)))) (w2.drew)) ∧ ∀ (a35 : Option Addr) (n36 : Nat) (c37 : Nat) (w38 : World), J3 [(.slice a35 n36 c37)] w38 → ∃ (J39 : List Value → World → Prop) (m40 : List Value → World → Nat), J39 [(.slice a35 n36 c37), (.int .i64 0)] w38 ∧ ∀ (a41 : Option Addr) (n42 : Nat) (c43 : Nat) (x44 : Int) (w45 : World), J39 [(.slice a41 n42 c43), (.int .i64 x44)] w45 → B50_l1 Rt E p1 J39 m40 a41 n42 c43 x44 w45
def A50 : Ann := fun n => match n with | 0 => [(3, .one .sl), (4, .one (.int .i64))] | 1000001 => [(0, .one .any)] | 2000001 => [(3, .one .sl)] | _ => []
theorem B50_eq (p1 : Option Addr) (w2 : World) (Rt : Value → World → Prop) (E : List PanicEntry → World → Prop) : vFn Cz A50 Tryz.f50.results.toList (bodyOf Tryz.f50) (startFr Tryz.f50.ntmps [(.pointer p1)]) w2 (CP Rt E) = B50 p1 w2 Rt E := by kernel_rfl
theorem C50 {p1 : Option Addr} {w2 : World} {Rt : Value → World → Prop} {E : List PanicEntry → World → Prop} (h : B50 p1 w2 Rt E) : Calls Cz.P 50 #[(.pointer p1)] w2 (CP Rt E) := calls_of_B (C := Cz) Cz.ok Tryz.func50 (by kernel_rfl) (B50_eq p1 w2 Rt E) h


end Go.Lf
end

section
set_option linter.unusedVariables false
set_option maxRecDepth 100000
set_option maxHeartbeats 4000000
namespace Go.Lf
open Go Go.Proofs
/-! ### (*lessor/disk.Disk).Fail: function 51 -/
def B51 (p1 : Option Addr) (x2 : Int) (w3 : World) (Rt : Value → World → Prop) (E : List PanicEntry → World → Prop) : Prop :=
  nn p1 fun q4 => st w3 (q4.add 3) (.int .i64 (if (-1 : Int) > x2 then (-1 : Int) else x2)) fun w5 => Rt (.tuple #[]) w5
def A51 : Ann := fun _ => []
theorem B51_eq (p1 : Option Addr) (x2 : Int) (w3 : World) (Rt : Value → World → Prop) (E : List PanicEntry → World → Prop) : vFn Cz A51 Tryz.f51.results.toList (bodyOf Tryz.f51) (startFr Tryz.f51.ntmps [(.pointer p1), (.int .i64 x2)]) w3 (CP Rt E) = B51 p1 x2 w3 Rt E := by kernel_rfl
theorem C51 {p1 : Option Addr} {x2 : Int} {w3 : World} {Rt : Value → World → Prop} {E : List PanicEntry → World → Prop} (h : B51 p1 x2 w3 Rt E) : Calls Cz.P 51 #[(.pointer p1), (.int .i64 x2)] w3 (CP Rt E) := calls_of_B (C := Cz) Cz.ok Tryz.func51 (by kernel_rfl) (B51_eq p1 x2 w3 Rt E) h


end Go.Lf
end

section
set_option linter.unusedVariables false
set_option maxRecDepth 100000
set_option maxHeartbeats 4000000
namespace Go.Lf
open Go Go.Proofs
/-! ### (*lessor/lessorref08.Disk).Fail: function 52 -/
def B52 (p1 : Option Addr) (x2 : Int) (w3 : World) (Rt : Value → World → Prop) (E : List PanicEntry → World → Prop) : Prop :=
  nn p1 fun q4 => st w3 (q4.add 3) (.int .i64 (if (-1 : Int) > x2 then (-1 : Int) else x2)) fun w5 => Rt (.tuple #[]) w5
def A52 : Ann := fun _ => []
theorem B52_eq (p1 : Option Addr) (x2 : Int) (w3 : World) (Rt : Value → World → Prop) (E : List PanicEntry → World → Prop) : vFn Cz A52 Tryz.f52.results.toList (bodyOf Tryz.f52) (startFr Tryz.f52.ntmps [(.pointer p1), (.int .i64 x2)]) w3 (CP Rt E) = B52 p1 x2 w3 Rt E := by kernel_rfl
theorem C52 {p1 : Option Addr} {x2 : Int} {w3 : World} {Rt : Value → World → Prop} {E : List PanicEntry → World → Prop} (h : B52 p1 x2 w3 Rt E) : Calls Cz.P 52 #[(.pointer p1), (.int .i64 x2)] w3 (CP Rt E) := calls_of_B (C := Cz) Cz.ok Tryz.func52 (by kernel_rfl) (B52_eq p1 x2 w3 Rt E) h


end Go.Lf
end

section
set_option linter.unusedVariables false
set_option maxRecDepth 100000
set_option maxHeartbeats 4000000
namespace Go.Lf
open Go Go.Proofs
/-! ### (*lessor/lessorref08.Disk).Crash: function 53 -/
def B53 (p1 : Option Addr) (x2 : Int) (w3 : World) (Rt : Value → World → Prop) (E : List PanicEntry → World → Prop) : Prop :=
  (fun w4 : World => nn p1 fun q5 => ∃ (a6 : Option Addr) (n7 : Nat) (c8 : Nat), w4.cell? (q5.add 1) = some (.slice a6 n7 c8) ∧ nn p1 fun q9 => ∃ (x10 : Int), w4.cell? (q9.add 2) = some (.int .i64 x10) ∧ (fun w11 : World => nn p1 fun q12 => ∃ (a13 : Option Addr) (n14 : Nat) (c15 : Nat), w11.cell? (q12.add 1) = some (.slice a13 n14 c15) ∧ nn p1 fun q16 => ∃ (x17 : Int), w11.cell? (q16.add 2) = some (.int .i64 x17) ∧ need (decide ((0 : Int) ≤ (IntKind.i64.wrap (x17 + (if (IntKind.i64.wrap ((n7 : Int) - x10)) < (if (0 : Int) > x2 then (0 : Int) else x2) then (IntKind.i64.wrap ((n7 : Int) - x10)) else (if (0 : Int) > x2 then (0 : Int) else x2))))) && decide ((IntKind.i64.wrap (x17 + (if (IntKind.i64.wrap ((n7 : Int) - x10)) < (if (0 : Int) > x2 then (0 : Int) else x2) then (IntKind.i64.wrap ((n7 : Int) - x10)) else (if (0 : Int) > x2 then (0 : Int) else x2)))) ≤ (c15 : Int))) (need (true && decide ((0 : Int) ≤ (IntKind.i64.wrap (x17 + (if (IntKind.i64.wrap ((n7 : Int) - x10)) < (if (0 : Int) > x2 then (0 : Int) else x2) then (IntKind.i64.wrap ((n7 : Int) - x10)) else (if (0 : Int) > x2 then (0 : Int) else x2)))))) ((∃ (a18 : Option Addr) (n19 : Nat) (c20 : Nat), ∃ w21 : World, Sem.run Cz.P (Instr.buildSlice 22 0 #[]) w11 = .ok (.slice a18 n19 c20) w21 ∧ ((w21.cell? (q16.add 2) = w11.cell? (q16.add 2) ∧ True) ∧ (w21.cell? (q12.add 1) = w11.cell? (q12.add 1) ∧ True) ∧ True) ∧ (∃ (a22 : Option Addr) (n23 : Nat) (c24 : Nat), ∃ w25 : World, Sem.run Cz.P (Builtin.append_ #[22, 22] 22 #[(.slice a18 n19 c20), (.slice (slA a13 0 c15 1) (((IntKind.i64.wrap (x17 + (if (IntKind.i64.wrap ((n7 : Int) - x10)) < (if (0 : Int) > x2 then (0 : Int) else x2) then (IntKind.i64.wrap ((n7 : Int) - x10)) else (if (0 : Int) > x2 then (0 : Int) else x2))))).toNat - 0) (c15 - 0))]) w21 = .ok (.slice a22 n23 c24) w25 ∧ (True) ∧ nn p1 fun q26 => (st w25 (q26.add 1) (.slice a22 n23 c24) fun w27 => nn p1 fun q28 => ∃ (a29 : Option Addr) (n30 : Nat) (c31 : Nat), w27.cell? (q28.add 1) = some (.slice a29 n30 c31) ∧ nn p1 fun q32 => st w27 (q32.add 2) (.int .i64 (n30 : Int)) fun w33 => nn p1 fun q34 => st w33 (q34.add 3) (.int .i64 (-1)) fun w35 => Rt (.tuple #[]) w35)))))) (w4.drew)) (w3.drew)
def A53 : Ann := fun _ => []
theorem B53_eq (p1 : Option Addr) (x2 : Int) (w3 : World) (Rt : Value → World → Prop) (E : List PanicEntry → World → Prop) : vFn Cz A53 Tryz.f53.results.toList (bodyOf Tryz.f53) (startFr Tryz.f53.ntmps [(.pointer p1), (.int .i64 x2)]) w3 (CP Rt E) = B53 p1 x2 w3 Rt E := by kernel_rfl
theorem C53 {p1 : Option Addr} {x2 : Int} {w3 : World} {Rt : Value → World → Prop} {E : List PanicEntry → World → Prop} (h : B53 p1 x2 w3 Rt E) : Calls Cz.P 53 #[(.pointer p1), (.int .i64 x2)] w3 (CP Rt E) := calls_of_B (C := Cz) Cz.ok Tryz.func53 (by kernel_rfl) (B53_eq p1 x2 w3 Rt E) h


end Go.Lf
end

section
set_option linter.unusedVariables false
set_option maxRecDepth 100000
set_option maxHeartbeats 4000000
namespace Go.Lf
open Go Go.Proofs
/-! ### lessor/table.sorted: function 54 -/
def B54 (v1 : Value) (v2 : Value) (w3 : World) (Rt : Value → World → Prop) (E : List PanicEntry → World → Prop) : Prop :=
  nw w3 (.cells (Value.cells v2) 102) fun k4 w5 => Calls Cz.P 89 #[v1, (.func (.func 90) #[] #[(.pointer (some ⟨k4, 0, none⟩))])] w5 (CP (fun r10 w9 => ∃ (a6 : Option Addr) (n7 : Nat) (c8 : Nat), r10 = (.slice a6 n7 c8) ∧ Rt (.slice a6 n7 c8) w9) E)
def A54 : Ann := fun _ => []
theorem B54_eq (v1 : Value) (v2 : Value) (w3 : World) (Rt : Value → World → Prop) (E : List PanicEntry → World → Prop) : vFn Cz A54 Tryz.f54.results.toList (bodyOf Tryz.f54) (startFr Tryz.f54.ntmps [v1, v2]) w3 (CP Rt E) = B54 v1 v2 w3 Rt E := by kernel_rfl
theorem C54 {v1 : Value} {v2 : Value} {w3 : World} {Rt : Value → World → Prop} {E : List PanicEntry → World → Prop} (h : B54 v1 v2 w3 Rt E) : Calls Cz.P 54 #[v1, v2] w3 (CP Rt E) := calls_of_B (C := Cz) Cz.ok Tryz.func54 (by kernel_rfl) (B54_eq v1 v2 w3 Rt E) h


end Go.Lf
end

section
set_option linter.unusedVariables false
set_option maxRecDepth 100000
set_option maxHeartbeats 4000000
namespace Go.Lf
open Go Go.Proofs
/-! ### (*lessor/table.Table).those: function 55 -/
def B55 (p1 : Option Addr) (v2 : Value) (w3 : World) (Rt : Value → World → Prop) (E : List PanicEntry → World → Prop) : Prop :=
  nw w3 (.cells #[(.pointer p1)] 60) fun k4 w5 => nw w5 (.cells (Value.cells v2) 101) fun k6 w7 => Rt (.func (.func 94) #[] #[(.pointer (some ⟨k4, 0, none⟩)), (.pointer (some ⟨k6, 0, none⟩))]) w7
def A55 : Ann := fun _ => []
theorem B55_eq (p1 : Option Addr) (v2 : Value) (w3 : World) (Rt : Value → World → Prop) (E : List PanicEntry → World → Prop) : vFn Cz A55 Tryz.f55.results.toList (bodyOf Tryz.f55) (startFr Tryz.f55.ntmps [(.pointer p1), v2]) w3 (CP Rt E) = B55 p1 v2 w3 Rt E := by kernel_rfl
theorem C55 {p1 : Option Addr} {v2 : Value} {w3 : World} {Rt : Value → World → Prop} {E : List PanicEntry → World → Prop} (h : B55 p1 v2 w3 Rt E) : Calls Cz.P 55 #[(.pointer p1), v2] w3 (CP Rt E) := calls_of_B (C := Cz) Cz.ok Tryz.func55 (by kernel_rfl) (B55_eq p1 v2 w3 Rt E) h


end Go.Lf
end

section
set_option linter.unusedVariables false
set_option maxRecDepth 100000
set_option maxHeartbeats 4000000
namespace Go.Lf
open Go Go.Proofs
/-! ### (*lessor/table.Table).All$1: function 56 -/
def B56 (x1 : Int) (x2 : Int) (s3 : ByteArray) (x4 : Int) (x5 : Int) (x6 : Int) (x7 : Int) (x8 : Int) (w9 : World) (Rt : Value → World → Prop) (E : List PanicEntry → World → Prop) : Prop :=
  nw w9 (.cells #[(.int .u32 x1), (.int .i64 x2), (.string s3), (.int .i64 x4), (.int .i64 x5), (.int .i64 x6), (.int .i64 x7), (.int .i64 x8)] 49) fun k10 w11 => Rt (.bool true) w11
def A56 : Ann := fun _ => []
theorem B56_eq (x1 : Int) (x2 : Int) (s3 : ByteArray) (x4 : Int) (x5 : Int) (x6 : Int) (x7 : Int) (x8 : Int) (w9 : World) (Rt : Value → World → Prop) (E : List PanicEntry → World → Prop) : vFn Cz A56 Tryz.f56.results.toList (bodyOf Tryz.f56) (startFr Tryz.f56.ntmps [(.agg #[(.int .u32 x1), (.int .i64 x2), (.string s3), (.int .i64 x4), (.int .i64 x5), (.int .i64 x6), (.int .i64 x7), (.int .i64 x8)])]) w9 (CP Rt E) = B56 x1 x2 s3 x4 x5 x6 x7 x8 w9 Rt E := by kernel_rfl
theorem C56 {x1 : Int} {x2 : Int} {s3 : ByteArray} {x4 : Int} {x5 : Int} {x6 : Int} {x7 : Int} {x8 : Int} {w9 : World} {Rt : Value → World → Prop} {E : List PanicEntry → World → Prop} (h : B56 x1 x2 s3 x4 x5 x6 x7 x8 w9 Rt E) : Calls Cz.P 56 #[(.agg #[(.int .u32 x1), (.int .i64 x2), (.string s3), (.int .i64 x4), (.int .i64 x5), (.int .i64 x6), (.int .i64 x7), (.int .i64 x8)])] w9 (CP Rt E) := calls_of_B (C := Cz) Cz.ok Tryz.func56 (by kernel_rfl) (B56_eq x1 x2 s3 x4 x5 x6 x7 x8 w9 Rt E) h


end Go.Lf
end

section
set_option linter.unusedVariables false
set_option maxRecDepth 100000
set_option maxHeartbeats 4000000
namespace Go.Lf
open Go Go.Proofs
/-! ### lessor/table.alike: function 57 -/
def B57 (x1 : Int) (x2 : Int) (s3 : ByteArray) (x4 : Int) (x5 : Int) (x6 : Int) (x7 : Int) (x8 : Int) (w9 : World) (Rt : Value → World → Prop) (E : List PanicEntry → World → Prop) : Prop :=
  nw w9 (.cells #[(.int .u32 x1), (.int .i64 x2), (.string s3), (.int .i64 x4), (.int .i64 x5), (.int .i64 x6), (.int .i64 x7), (.int .i64 x8)] 49) fun k10 w11 => Rt (.int .i64 0) w11
def A57 : Ann := fun _ => []
theorem B57_eq (x1 : Int) (x2 : Int) (s3 : ByteArray) (x4 : Int) (x5 : Int) (x6 : Int) (x7 : Int) (x8 : Int) (w9 : World) (Rt : Value → World → Prop) (E : List PanicEntry → World → Prop) : vFn Cz A57 Tryz.f57.results.toList (bodyOf Tryz.f57) (startFr Tryz.f57.ntmps [(.agg #[(.int .u32 x1), (.int .i64 x2), (.string s3), (.int .i64 x4), (.int .i64 x5), (.int .i64 x6), (.int .i64 x7), (.int .i64 x8)])]) w9 (CP Rt E) = B57 x1 x2 s3 x4 x5 x6 x7 x8 w9 Rt E := by kernel_rfl
theorem C57 {x1 : Int} {x2 : Int} {s3 : ByteArray} {x4 : Int} {x5 : Int} {x6 : Int} {x7 : Int} {x8 : Int} {w9 : World} {Rt : Value → World → Prop} {E : List PanicEntry → World → Prop} (h : B57 x1 x2 s3 x4 x5 x6 x7 x8 w9 Rt E) : Calls Cz.P 57 #[(.agg #[(.int .u32 x1), (.int .i64 x2), (.string s3), (.int .i64 x4), (.int .i64 x5), (.int .i64 x6), (.int .i64 x7), (.int .i64 x8)])] w9 (CP Rt E) := calls_of_B (C := Cz) Cz.ok Tryz.func57 (by kernel_rfl) (B57_eq x1 x2 s3 x4 x5 x6 x7 x8 w9 Rt E) h


end Go.Lf
end

section
set_option linter.unusedVariables false
set_option maxRecDepth 100000
set_option maxHeartbeats 4000000
namespace Go.Lf
open Go Go.Proofs
/-! ### lessor/store.stateRecord: function 58 -/
def B58 (x1 : Int) (w2 : World) (Rt : Value → World → Prop) (E : List PanicEntry → World → Prop) : Prop :=
  ∃ (a3 : Option Addr) (n4 : Nat) (c5 : Nat), ∃ w6 : World, Sem.run Cz.P (Instr.buildSlice 22 2 #[(0, (.int .u8 83)), (1, (.int .u8 (IntKind.u8.wrap x1)))]) w2 = .ok (.slice a3 n4 c5) w6 ∧ Rt (.slice a3 n4 c5) w6
def A58 : Ann := fun _ => []
theorem B58_eq (x1 : Int) (w2 : World) (Rt : Value → World → Prop) (E : List PanicEntry → World → Prop) : vFn Cz A58 Tryz.f58.results.toList (bodyOf Tryz.f58) (startFr Tryz.f58.ntmps [(.int .i64 x1)]) w2 (CP Rt E) = B58 x1 w2 Rt E := by kernel_rfl
theorem C58 {x1 : Int} {w2 : World} {Rt : Value → World → Prop} {E : List PanicEntry → World → Prop} (h : B58 x1 w2 Rt E) : Calls Cz.P 58 #[(.int .i64 x1)] w2 (CP Rt E) := calls_of_B (C := Cz) Cz.ok Tryz.func58 (by kernel_rfl) (B58_eq x1 w2 Rt E) h


end Go.Lf
end

section
set_option linter.unusedVariables false
set_option maxRecDepth 100000
set_option maxHeartbeats 4000000
namespace Go.Lf
open Go Go.Proofs
/-! ### lessor/store.lifeRecord: function 59 -/
def B59 (x1 : Int) (w2 : World) (Rt : Value → World → Prop) (E : List PanicEntry → World → Prop) : Prop :=
  ∃ (a3 : Option Addr) (n4 : Nat) (c5 : Nat), ∃ w6 : World, Sem.run Cz.P (Instr.buildSlice 22 5 #[(0, (.int .u8 70)), (1, (.int .u8 (IntKind.u8.wrap (Int.fdiv x1 (2 ^ 24))))), (2, (.int .u8 (IntKind.u8.wrap (Int.fdiv x1 (2 ^ 16))))), (3, (.int .u8 (IntKind.u8.wrap (Int.fdiv x1 (2 ^ 8))))), (4, (.int .u8 (IntKind.u8.wrap x1)))]) w2 = .ok (.slice a3 n4 c5) w6 ∧ Rt (.slice a3 n4 c5) w6
def A59 : Ann := fun _ => []
theorem B59_eq (x1 : Int) (w2 : World) (Rt : Value → World → Prop) (E : List PanicEntry → World → Prop) : vFn Cz A59 Tryz.f59.results.toList (bodyOf Tryz.f59) (startFr Tryz.f59.ntmps [(.int .i64 x1)]) w2 (CP Rt E) = B59 x1 w2 Rt E := by kernel_rfl
theorem C59 {x1 : Int} {w2 : World} {Rt : Value → World → Prop} {E : List PanicEntry → World → Prop} (h : B59 x1 w2 Rt E) : Calls Cz.P 59 #[(.int .i64 x1)] w2 (CP Rt E) := calls_of_B (C := Cz) Cz.ok Tryz.func59 (by kernel_rfl) (B59_eq x1 w2 Rt E) h


end Go.Lf
end

section
set_option linter.unusedVariables false
set_option maxRecDepth 100000
set_option maxHeartbeats 4000000
namespace Go.Lf
open Go Go.Proofs
/-! ### lessor/lease.Bare: function 60 -/
def B60 (x1 : Int) (x2 : Int) (x3 : Int) (w4 : World) (Rt : Value → World → Prop) (E : List PanicEntry → World → Prop) : Prop :=
  nw w4 (.cells #[(.int .u32 0), (.int .i64 0), (.string ⟨#[]⟩), (.int .i64 0), (.int .i64 0), (.int .i64 0), (.int .i64 0), (.int .i64 0)] 49) fun k5 w6 => st w6 ⟨k5, 0, none⟩ (.int .u32 x1) fun w7 => st w7 ⟨k5, 1, none⟩ (.int .i64 x2) fun w8 => st w8 ⟨k5, 2, none⟩ (.string ⟨#[]⟩) fun w9 => st w9 ⟨k5, 3, none⟩ (.int .i64 0) fun w10 => st w10 ⟨k5, 4, none⟩ (.int .i64 0) fun w11 => st w11 ⟨k5, 5, none⟩ (.int .i64 0) fun w12 => st w12 ⟨k5, 6, none⟩ (.int .i64 0) fun w13 => st w13 ⟨k5, 7, none⟩ (.int .i64 x3) fun w14 => ∃ (x15 : Int) (x16 : Int) (s17 : ByteArray) (x18 : Int) (x19 : Int) (x20 : Int) (x21 : Int) (x22 : Int), (w14.cell? ⟨k5, 0, none⟩ = some (.int .u32 x15) ∧ w14.cell? ⟨k5, 1, none⟩ = some (.int .i64 x16) ∧ w14.cell? ⟨k5, 2, none⟩ = some (.string s17) ∧ w14.cell? ⟨k5, 3, none⟩ = some (.int .i64 x18) ∧ w14.cell? ⟨k5, 4, none⟩ = some (.int .i64 x19) ∧ w14.cell? ⟨k5, 5, none⟩ = some (.int .i64 x20) ∧ w14.cell? ⟨k5, 6, none⟩ = some (.int .i64 x21) ∧ w14.cell? ⟨k5, 7, none⟩ = some (.int .i64 x22) ∧ True) ∧ Rt (.agg #[(.int .u32 x15), (.int .i64 x16), (.string s17), (.int .i64 x18), (.int .i64 x19), (.int .i64 x20), (.int .i64 x21), (.int .i64 x22)]) w14
def A60 : Ann := fun _ => []
theorem B60_eq (x1 : Int) (x2 : Int) (x3 : Int) (w4 : World) (Rt : Value → World → Prop) (E : List PanicEntry → World → Prop) : vFn Cz A60 Tryz.f60.results.toList (bodyOf Tryz.f60) (startFr Tryz.f60.ntmps [(.int .u32 x1), (.int .i64 x2), (.int .i64 x3)]) w4 (CP Rt E) = B60 x1 x2 x3 w4 Rt E := by kernel_rfl
theorem C60 {x1 : Int} {x2 : Int} {x3 : Int} {w4 : World} {Rt : Value → World → Prop} {E : List PanicEntry → World → Prop} (h : B60 x1 x2 x3 w4 Rt E) : Calls Cz.P 60 #[(.int .u32 x1), (.int .i64 x2), (.int .i64 x3)] w4 (CP Rt E) := calls_of_B (C := Cz) Cz.ok Tryz.func60 (by kernel_rfl) (B60_eq x1 x2 x3 w4 Rt E) h


end Go.Lf
end

section
set_option linter.unusedVariables false
set_option maxRecDepth 100000
set_option maxHeartbeats 4000000
namespace Go.Lf
open Go Go.Proofs
/-! ### lessor/store.leaseRecord: function 61 -/
def B61 (x1 : Int) (x2 : Int) (s3 : ByteArray) (x4 : Int) (x5 : Int) (x6 : Int) (x7 : Int) (x8 : Int) (w9 : World) (Rt : Value → World → Prop) (E : List PanicEntry → World → Prop) : Prop :=
  nw w9 (.cells #[(.int .u32 x1), (.int .i64 x2), (.string s3), (.int .i64 x4), (.int .i64 x5), (.int .i64 x6), (.int .i64 x7), (.int .i64 x8)] 49) fun k10 w11 => ∃ (x12 : Int) (x13 : Int) (s14 : ByteArray) (x15 : Int) (x16 : Int) (x17 : Int) (x18 : Int) (x19 : Int), (w11.cell? ⟨k10, 0, none⟩ = some (.int .u32 x12) ∧ w11.cell? ⟨k10, 1, none⟩ = some (.int .i64 x13) ∧ w11.cell? ⟨k10, 2, none⟩ = some (.string s14) ∧ w11.cell? ⟨k10, 3, none⟩ = some (.int .i64 x15) ∧ w11.cell? ⟨k10, 4, none⟩ = some (.int .i64 x16) ∧ w11.cell? ⟨k10, 5, none⟩ = some (.int .i64 x17) ∧ w11.cell? ⟨k10, 6, none⟩ = some (.int .i64 x18) ∧ w11.cell? ⟨k10, 7, none⟩ = some (.int .i64 x19) ∧ True) ∧ Calls Cz.P 95 #[(.agg #[(.int .u32 x12), (.int .i64 x13), (.string s14), (.int .i64 x15), (.int .i64 x16), (.int .i64 x17), (.int .i64 x18), (.int .i64 x19)])] w11 (CP (fun r25 w24 => ∃ (a20 : Option Addr) (n21 : Nat) (c22 : Nat) (x23 : Int), r25 = (.tuple #[(.slice a20 n21 c22), (.int .i64 x23)]) ∧ ∃ (a26 : Option Addr) (n27 : Nat) (c28 : Nat), ∃ w29 : World, Sem.run Cz.P (Instr.buildSlice 22 1 #[(0, (.int .u8 76))]) w24 = .ok (.slice a26 n27 c28) w29 ∧ ∃ (a30 : Option Addr) (n31 : Nat) (c32 : Nat), ∃ w33 : World, Sem.run Cz.P (Builtin.append_ #[22, 22] 22 #[(.slice a26 n27 c28), (.slice a20 n21 c22)]) w29 = .ok (.slice a30 n31 c32) w33 ∧ Rt (.slice a30 n31 c32) w33) E)
def A61 : Ann := fun _ => []
theorem B61_eq (x1 : Int) (x2 : Int) (s3 : ByteArray) (x4 : Int) (x5 : Int) (x6 : Int) (x7 : Int) (x8 : Int) (w9 : World) (Rt : Value → World → Prop) (E : List PanicEntry → World → Prop) : vFn Cz A61 Tryz.f61.results.toList (bodyOf Tryz.f61) (startFr Tryz.f61.ntmps [(.agg #[(.int .u32 x1), (.int .i64 x2), (.string s3), (.int .i64 x4), (.int .i64 x5), (.int .i64 x6), (.int .i64 x7), (.int .i64 x8)])]) w9 (CP Rt E) = B61 x1 x2 s3 x4 x5 x6 x7 x8 w9 Rt E := by kernel_rfl
theorem C61 {x1 : Int} {x2 : Int} {s3 : ByteArray} {x4 : Int} {x5 : Int} {x6 : Int} {x7 : Int} {x8 : Int} {w9 : World} {Rt : Value → World → Prop} {E : List PanicEntry → World → Prop} (h : B61 x1 x2 s3 x4 x5 x6 x7 x8 w9 Rt E) : Calls Cz.P 61 #[(.agg #[(.int .u32 x1), (.int .i64 x2), (.string s3), (.int .i64 x4), (.int .i64 x5), (.int .i64 x6), (.int .i64 x7), (.int .i64 x8)])] w9 (CP Rt E) := calls_of_B (C := Cz) Cz.ok Tryz.func61 (by kernel_rfl) (B61_eq x1 x2 s3 x4 x5 x6 x7 x8 w9 Rt E) h


end Go.Lf
end
