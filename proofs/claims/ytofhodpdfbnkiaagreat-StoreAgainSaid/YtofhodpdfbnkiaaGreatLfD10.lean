/- Part 10 of the lemmas that a proof leans on; no claim is made here. By an AI agent. -/
import Derived.Test.YtofhodpdfbnkiaaGreatLfD07
section
set_option linter.unusedVariables false
set_option maxRecDepth 100000
set_option maxHeartbeats 4000000
namespace Go.Lf
open Go Go.Proofs
/-! ### (*lessor/table.Table).Get: function 28 -/
def B28 (p1 : Option Addr) (x2 : Int) (w3 : World) (Rt : Value → World → Prop) (E : List PanicEntry → World → Prop) : Prop :=
  nw w3 (.cells #[(.int .u32 0), (.int .i64 0), (.string ⟨#[]⟩), (.int .i64 0), (.int .i64 0), (.int .i64 0), (.int .i64 0), (.int .i64 0)] 49) fun k4 w5 => nn p1 fun q6 => ∃ (m7 : Option Nat), w5.cell? q6 = some (.map m7) ∧ ∃ (x8 : Int) (x9 : Int) (s10 : ByteArray) (x11 : Int) (x12 : Int) (x13 : Int) (x14 : Int) (x15 : Int) (b16 : Bool), ∃ w17 : World, Sem.run Cz.P (Instr.lookup 108 (.map m7) (.int .u32 x2) true) w5 = .ok (.tuple #[(.agg #[(.int .u32 x8), (.int .i64 x9), (.string s10), (.int .i64 x11), (.int .i64 x12), (.int .i64 x13), (.int .i64 x14), (.int .i64 x15)]), (.bool b16)]) w17 ∧ nw w17 (.cells #[(.int .u32 0), (.int .i64 0), (.string ⟨#[]⟩), (.int .i64 0), (.int .i64 0), (.int .i64 0), (.int .i64 0), (.int .i64 0)] 49) fun k18 w19 => st w19 ⟨k18, 0, none⟩ (.int .u32 x8) fun w20 => st w20 ⟨k18, 1, none⟩ (.int .i64 x9) fun w21 => st w21 ⟨k18, 2, none⟩ (.string s10) fun w22 => st w22 ⟨k18, 3, none⟩ (.int .i64 x11) fun w23 => st w23 ⟨k18, 4, none⟩ (.int .i64 x12) fun w24 => st w24 ⟨k18, 5, none⟩ (.int .i64 x13) fun w25 => st w25 ⟨k18, 6, none⟩ (.int .i64 x14) fun w26 => st w26 ⟨k18, 7, none⟩ (.int .i64 x15) fun w27 => ifB (!b16) (st w27 ⟨k4, 0, none⟩ (.int .u32 0) fun w28 => st w28 ⟨k4, 1, none⟩ (.int .i64 0) fun w29 => st w29 ⟨k4, 2, none⟩ (.string ⟨#[]⟩) fun w30 => st w30 ⟨k4, 3, none⟩ (.int .i64 0) fun w31 => st w31 ⟨k4, 4, none⟩ (.int .i64 0) fun w32 => st w32 ⟨k4, 5, none⟩ (.int .i64 0) fun w33 => st w33 ⟨k4, 6, none⟩ (.int .i64 0) fun w34 => st w34 ⟨k4, 7, none⟩ (.int .i64 0) fun w35 => ∃ (x36 : Int) (x37 : Int) (s38 : ByteArray) (x39 : Int) (x40 : Int) (x41 : Int) (x42 : Int) (x43 : Int), (w35.cell? ⟨k4, 0, none⟩ = some (.int .u32 x36) ∧ w35.cell? ⟨k4, 1, none⟩ = some (.int .i64 x37) ∧ w35.cell? ⟨k4, 2, none⟩ = some (.string s38) ∧ w35.cell? ⟨k4, 3, none⟩ = some (.int .i64 x39) ∧ w35.cell? ⟨k4, 4, none⟩ = some (.int .i64 x40) ∧ w35.cell? ⟨k4, 5, none⟩ = some (.int .i64 x41) ∧ w35.cell? ⟨k4, 6, none⟩ = some (.int .i64 x42) ∧ w35.cell? ⟨k4, 7, none⟩ = some (.int .i64 x43) ∧ True) ∧ Rt (.tuple #[(.agg #[(.int .u32 x36), (.int .i64 x37), (.string s38), (.int .i64 x39), (.int .i64 x40), (.int .i64 x41), (.int .i64 x42), (.int .i64 x43)]), (.int .i64 4)]) w35) (∃ (x44 : Int) (x45 : Int) (s46 : ByteArray) (x47 : Int) (x48 : Int) (x49 : Int) (x50 : Int) (x51 : Int), (w27.cell? ⟨k18, 0, none⟩ = some (.int .u32 x44) ∧ w27.cell? ⟨k18, 1, none⟩ = some (.int .i64 x45) ∧ w27.cell? ⟨k18, 2, none⟩ = some (.string s46) ∧ w27.cell? ⟨k18, 3, none⟩ = some (.int .i64 x47) ∧ w27.cell? ⟨k18, 4, none⟩ = some (.int .i64 x48) ∧ w27.cell? ⟨k18, 5, none⟩ = some (.int .i64 x49) ∧ w27.cell? ⟨k18, 6, none⟩ = some (.int .i64 x50) ∧ w27.cell? ⟨k18, 7, none⟩ = some (.int .i64 x51) ∧ True) ∧ st w27 ⟨k4, 0, none⟩ (.int .u32 x44) fun w52 => st w52 ⟨k4, 1, none⟩ (.int .i64 x45) fun w53 => st w53 ⟨k4, 2, none⟩ (.string s46) fun w54 => st w54 ⟨k4, 3, none⟩ (.int .i64 x47) fun w55 => st w55 ⟨k4, 4, none⟩ (.int .i64 x48) fun w56 => st w56 ⟨k4, 5, none⟩ (.int .i64 x49) fun w57 => st w57 ⟨k4, 6, none⟩ (.int .i64 x50) fun w58 => st w58 ⟨k4, 7, none⟩ (.int .i64 x51) fun w59 => ∃ (x60 : Int) (x61 : Int) (s62 : ByteArray) (x63 : Int) (x64 : Int) (x65 : Int) (x66 : Int) (x67 : Int), (w59.cell? ⟨k4, 0, none⟩ = some (.int .u32 x60) ∧ w59.cell? ⟨k4, 1, none⟩ = some (.int .i64 x61) ∧ w59.cell? ⟨k4, 2, none⟩ = some (.string s62) ∧ w59.cell? ⟨k4, 3, none⟩ = some (.int .i64 x63) ∧ w59.cell? ⟨k4, 4, none⟩ = some (.int .i64 x64) ∧ w59.cell? ⟨k4, 5, none⟩ = some (.int .i64 x65) ∧ w59.cell? ⟨k4, 6, none⟩ = some (.int .i64 x66) ∧ w59.cell? ⟨k4, 7, none⟩ = some (.int .i64 x67) ∧ True) ∧ Rt (.tuple #[(.agg #[(.int .u32 x60), (.int .i64 x61), (.string s62), (.int .i64 x63), (.int .i64 x64), (.int .i64 x65), (.int .i64 x66), (.int .i64 x67)]), (.int .i64 0)]) w59)
def A28 : Ann := fun _ => []
theorem B28_eq (p1 : Option Addr) (x2 : Int) (w3 : World) (Rt : Value → World → Prop) (E : List PanicEntry → World → Prop) : vFn Cz A28 Tryz.f28.results.toList (bodyOf Tryz.f28) (startFr Tryz.f28.ntmps [(.pointer p1), (.int .u32 x2)]) w3 (CP Rt E) = B28 p1 x2 w3 Rt E := by kernel_rfl
theorem C28 {p1 : Option Addr} {x2 : Int} {w3 : World} {Rt : Value → World → Prop} {E : List PanicEntry → World → Prop} (h : B28 p1 x2 w3 Rt E) : Calls Cz.P 28 #[(.pointer p1), (.int .u32 x2)] w3 (CP Rt E) := calls_of_B (C := Cz) Cz.ok Tryz.func28 (by kernel_rfl) (B28_eq p1 x2 w3 Rt E) h


end Go.Lf
end

section
set_option linter.unusedVariables false
set_option maxRecDepth 100000
set_option maxHeartbeats 4000000
namespace Go.Lf
open Go Go.Proofs
/-! ### (*lessor/store.Store).Put: function 29 -/
def B29 (p1 : Option Addr) (x2 : Int) (x3 : Int) (s4 : ByteArray) (x5 : Int) (x6 : Int) (x7 : Int) (x8 : Int) (x9 : Int) (w10 : World) (Rt : Value → World → Prop) (E : List PanicEntry → World → Prop) : Prop :=
  nw w10 (.cells #[(.int .u32 x2), (.int .i64 x3), (.string s4), (.int .i64 x5), (.int .i64 x6), (.int .i64 x7), (.int .i64 x8), (.int .i64 x9)] 49) fun k11 w12 => ∃ (x13 : Int) (x14 : Int) (s15 : ByteArray) (x16 : Int) (x17 : Int) (x18 : Int) (x19 : Int) (x20 : Int), (w12.cell? ⟨k11, 0, none⟩ = some (.int .u32 x13) ∧ w12.cell? ⟨k11, 1, none⟩ = some (.int .i64 x14) ∧ w12.cell? ⟨k11, 2, none⟩ = some (.string s15) ∧ w12.cell? ⟨k11, 3, none⟩ = some (.int .i64 x16) ∧ w12.cell? ⟨k11, 4, none⟩ = some (.int .i64 x17) ∧ w12.cell? ⟨k11, 5, none⟩ = some (.int .i64 x18) ∧ w12.cell? ⟨k11, 6, none⟩ = some (.int .i64 x19) ∧ w12.cell? ⟨k11, 7, none⟩ = some (.int .i64 x20) ∧ True) ∧ Calls Cz.P 64 #[(.agg #[(.int .u32 x13), (.int .i64 x14), (.string s15), (.int .i64 x16), (.int .i64 x17), (.int .i64 x18), (.int .i64 x19), (.int .i64 x20)])] w12 (CP (fun r23 w22 => ∃ (b21 : Bool), r23 = (.bool b21) ∧ ifB (!b21) (Rt (.int .i64 1) w22) (∃ (J24 : List Value → World → Prop), ((fun w25 : World => nn p1 fun q26 => ∃ (p27 : Option Addr), w25.cell? (q26.add 1) = some (.pointer p27) ∧ ∃ (x28 : Int), w25.cell? ⟨k11, 0, none⟩ = some (.int .u32 x28) ∧ (Calls Cz.P 28 #[(.pointer p27), (.int .u32 x28)] w25 (CP (fun r39 w38 => ∃ (x29 : Int) (x30 : Int) (s31 : ByteArray) (x32 : Int) (x33 : Int) (x34 : Int) (x35 : Int) (x36 : Int) (x37 : Int), r39 = (.tuple #[(.agg #[(.int .u32 x29), (.int .i64 x30), (.string s31), (.int .i64 x32), (.int .i64 x33), (.int .i64 x34), (.int .i64 x35), (.int .i64 x36)]), (.int .i64 x37)]) ∧ (nw w38 (.cells #[(.int .u32 0), (.int .i64 0), (.string ⟨#[]⟩), (.int .i64 0), (.int .i64 0), (.int .i64 0), (.int .i64 0), (.int .i64 0)] 49) fun k40 w41 => (True) ∧ (st w41 ⟨k40, 0, none⟩ (.int .u32 x29) fun w42 => st w42 ⟨k40, 1, none⟩ (.int .i64 x30) fun w43 => st w43 ⟨k40, 2, none⟩ (.string s31) fun w44 => st w44 ⟨k40, 3, none⟩ (.int .i64 x32) fun w45 => st w45 ⟨k40, 4, none⟩ (.int .i64 x33) fun w46 => st w46 ⟨k40, 5, none⟩ (.int .i64 x34) fun w47 => st w47 ⟨k40, 6, none⟩ (.int .i64 x35) fun w48 => st w48 ⟨k40, 7, none⟩ (.int .i64 x36) fun w49 => (True) ∧ J24 [(.int .i64 x37)] w49))) (fun _ _ => False))) ∧ (nw w25 (.cells #[(.int .u32 0), (.int .i64 0), (.string ⟨#[]⟩), (.int .i64 0), (.int .i64 0), (.int .i64 0), (.int .i64 0), (.int .i64 0)] 49) fun k50 w51 => ((w51.cell? ⟨k11, 0, none⟩ = w25.cell? ⟨k11, 0, none⟩ ∧ True) ∧ (w51.cell? (q26.add 1) = w25.cell? (q26.add 1) ∧ True) ∧ True) ∧ (Calls Cz.P 28 #[(.pointer p27), (.int .u32 x28)] w51 (CP (fun r62 w61 => ∃ (x52 : Int) (x53 : Int) (s54 : ByteArray) (x55 : Int) (x56 : Int) (x57 : Int) (x58 : Int) (x59 : Int) (x60 : Int), r62 = (.tuple #[(.agg #[(.int .u32 x52), (.int .i64 x53), (.string s54), (.int .i64 x55), (.int .i64 x56), (.int .i64 x57), (.int .i64 x58), (.int .i64 x59)]), (.int .i64 x60)]) ∧ (st w61 ⟨k50, 0, none⟩ (.int .u32 x52) fun w63 => st w63 ⟨k50, 1, none⟩ (.int .i64 x53) fun w64 => st w64 ⟨k50, 2, none⟩ (.string s54) fun w65 => st w65 ⟨k50, 3, none⟩ (.int .i64 x55) fun w66 => st w66 ⟨k50, 4, none⟩ (.int .i64 x56) fun w67 => st w67 ⟨k50, 5, none⟩ (.int .i64 x57) fun w68 => st w68 ⟨k50, 6, none⟩ (.int .i64 x58) fun w69 => st w69 ⟨k50, 7, none⟩ (.int .i64 x59) fun w70 => (True) ∧ J24 [(.int .i64 x60)] w70)) (fun _ _ => False))))) (w22.drew)) ∧ ∀ (x71 : Int) (w72 : World), J24 [(.int .i64 x71)] w72 → ifB (x71 != 0) (Rt (.int .i64 x71) w72) (∃ (x73 : Int) (x74 : Int) (s75 : ByteArray) (x76 : Int) (x77 : Int) (x78 : Int) (x79 : Int) (x80 : Int), (w72.cell? ⟨k11, 0, none⟩ = some (.int .u32 x73) ∧ w72.cell? ⟨k11, 1, none⟩ = some (.int .i64 x74) ∧ w72.cell? ⟨k11, 2, none⟩ = some (.string s75) ∧ w72.cell? ⟨k11, 3, none⟩ = some (.int .i64 x76) ∧ w72.cell? ⟨k11, 4, none⟩ = some (.int .i64 x77) ∧ w72.cell? ⟨k11, 5, none⟩ = some (.int .i64 x78) ∧ w72.cell? ⟨k11, 6, none⟩ = some (.int .i64 x79) ∧ w72.cell? ⟨k11, 7, none⟩ = some (.int .i64 x80) ∧ True) ∧ Calls Cz.P 61 #[(.agg #[(.int .u32 x73), (.int .i64 x74), (.string s75), (.int .i64 x76), (.int .i64 x77), (.int .i64 x78), (.int .i64 x79), (.int .i64 x80)])] w72 (CP (fun r85 w84 => ∃ (a81 : Option Addr) (n82 : Nat) (c83 : Nat), r85 = (.slice a81 n82 c83) ∧ Calls Cz.P 65 #[(.pointer p1), (.slice a81 n82 c83)] w84 (CP (fun r88 w87 => ∃ (x86 : Int), r88 = (.int .i64 x86) ∧ Rt (.int .i64 x86) w87) E)) E)))) E)
def A29 : Ann := fun n => match n with | 1000003 => [(0, .one .any)] | 2000003 => [(6, .one (.int .i64))] | _ => []
theorem B29_eq (p1 : Option Addr) (x2 : Int) (x3 : Int) (s4 : ByteArray) (x5 : Int) (x6 : Int) (x7 : Int) (x8 : Int) (x9 : Int) (w10 : World) (Rt : Value → World → Prop) (E : List PanicEntry → World → Prop) : vFn Cz A29 Tryz.f29.results.toList (bodyOf Tryz.f29) (startFr Tryz.f29.ntmps [(.pointer p1), (.agg #[(.int .u32 x2), (.int .i64 x3), (.string s4), (.int .i64 x5), (.int .i64 x6), (.int .i64 x7), (.int .i64 x8), (.int .i64 x9)])]) w10 (CP Rt E) = B29 p1 x2 x3 s4 x5 x6 x7 x8 x9 w10 Rt E := by kernel_rfl
theorem C29 {p1 : Option Addr} {x2 : Int} {x3 : Int} {s4 : ByteArray} {x5 : Int} {x6 : Int} {x7 : Int} {x8 : Int} {x9 : Int} {w10 : World} {Rt : Value → World → Prop} {E : List PanicEntry → World → Prop} (h : B29 p1 x2 x3 s4 x5 x6 x7 x8 x9 w10 Rt E) : Calls Cz.P 29 #[(.pointer p1), (.agg #[(.int .u32 x2), (.int .i64 x3), (.string s4), (.int .i64 x5), (.int .i64 x6), (.int .i64 x7), (.int .i64 x8), (.int .i64 x9)])] w10 (CP Rt E) := calls_of_B (C := Cz) Cz.ok Tryz.func29 (by kernel_rfl) (B29_eq p1 x2 x3 s4 x5 x6 x7 x8 x9 w10 Rt E) h


end Go.Lf
end

section
set_option linter.unusedVariables false
set_option maxRecDepth 100000
set_option maxHeartbeats 4000000
namespace Go.Lf
open Go Go.Proofs
/-! ### (*lessor/store.Store).SetLife: function 30 -/
def B30_j1 (Rt : Value → World → Prop) (E : List PanicEntry → World → Prop) (p1 : Option Addr) (x2 : Int) (b4 : Bool) (w5 : World) : Prop :=
  ifB b4 (Rt (.int .i64 1) w5) (Calls Cz.P 59 #[(.int .i64 x2)] w5 (CP (fun r10 w9 => ∃ (a6 : Option Addr) (n7 : Nat) (c8 : Nat), r10 = (.slice a6 n7 c8) ∧ Calls Cz.P 65 #[(.pointer p1), (.slice a6 n7 c8)] w9 (CP (fun r13 w12 => ∃ (x11 : Int), r13 = (.int .i64 x11) ∧ Rt (.int .i64 x11) w12) E)) E))
def B30 (p1 : Option Addr) (x2 : Int) (w3 : World) (Rt : Value → World → Prop) (E : List PanicEntry → World → Prop) : Prop :=
  ifB (decide (x2 < 0)) (B30_j1 Rt E p1 x2 true w3) (B30_j1 Rt E p1 x2 (decide (x2 > 536870912)) w3)
def A30 : Ann := fun _ => []
theorem B30_eq (p1 : Option Addr) (x2 : Int) (w3 : World) (Rt : Value → World → Prop) (E : List PanicEntry → World → Prop) : vFn Cz A30 Tryz.f30.results.toList (bodyOf Tryz.f30) (startFr Tryz.f30.ntmps [(.pointer p1), (.int .i64 x2)]) w3 (CP Rt E) = B30 p1 x2 w3 Rt E := by kernel_rfl
theorem C30 {p1 : Option Addr} {x2 : Int} {w3 : World} {Rt : Value → World → Prop} {E : List PanicEntry → World → Prop} (h : B30 p1 x2 w3 Rt E) : Calls Cz.P 30 #[(.pointer p1), (.int .i64 x2)] w3 (CP Rt E) := calls_of_B (C := Cz) Cz.ok Tryz.func30 (by kernel_rfl) (B30_eq p1 x2 w3 Rt E) h


end Go.Lf
end

section
set_option linter.unusedVariables false
set_option maxRecDepth 100000
set_option maxHeartbeats 4000000
namespace Go.Lf
open Go Go.Proofs
/-! ### (*lessor/store.Store).Sync: function 31 -/
def B31 (p1 : Option Addr) (w2 : World) (Rt : Value → World → Prop) (E : List PanicEntry → World → Prop) : Prop :=
  nn p1 fun q3 => ∃ (p4 : Option Addr), w2.cell? q3 = some (.pointer p4) ∧ nn p4 fun q5 => ∃ (p6 : Option Addr), w2.cell? q5 = some (.pointer p6) ∧ Calls Cz.P 66 #[(.pointer p6)] w2 (CP (fun r9 w8 => ∃ (x7 : Int), r9 = (.int .i64 x7) ∧ Rt (.int .i64 x7) w8) E)
def A31 : Ann := fun _ => []
theorem B31_eq (p1 : Option Addr) (w2 : World) (Rt : Value → World → Prop) (E : List PanicEntry → World → Prop) : vFn Cz A31 Tryz.f31.results.toList (bodyOf Tryz.f31) (startFr Tryz.f31.ntmps [(.pointer p1)]) w2 (CP Rt E) = B31 p1 w2 Rt E := by kernel_rfl
theorem C31 {p1 : Option Addr} {w2 : World} {Rt : Value → World → Prop} {E : List PanicEntry → World → Prop} (h : B31 p1 w2 Rt E) : Calls Cz.P 31 #[(.pointer p1)] w2 (CP Rt E) := calls_of_B (C := Cz) Cz.ok Tryz.func31 (by kernel_rfl) (B31_eq p1 w2 Rt E) h


end Go.Lf
end

section
set_option linter.unusedVariables false
set_option maxRecDepth 100000
set_option maxHeartbeats 4000000
namespace Go.Lf
open Go Go.Proofs
/-! ### (*lessor/store.Store).SetState: function 32 -/
def B32_j1 (Rt : Value → World → Prop) (E : List PanicEntry → World → Prop) (p1 : Option Addr) (x2 : Int) (b4 : Bool) (w5 : World) : Prop :=
  ifB b4 (Rt (.int .i64 1) w5) (Calls Cz.P 58 #[(.int .i64 x2)] w5 (CP (fun r10 w9 => ∃ (a6 : Option Addr) (n7 : Nat) (c8 : Nat), r10 = (.slice a6 n7 c8) ∧ Calls Cz.P 65 #[(.pointer p1), (.slice a6 n7 c8)] w9 (CP (fun r13 w12 => ∃ (x11 : Int), r13 = (.int .i64 x11) ∧ Rt (.int .i64 x11) w12) E)) E))
def B32 (p1 : Option Addr) (x2 : Int) (w3 : World) (Rt : Value → World → Prop) (E : List PanicEntry → World → Prop) : Prop :=
  ifB (decide (x2 < 0)) (B32_j1 Rt E p1 x2 true w3) (B32_j1 Rt E p1 x2 (decide (x2 > 8)) w3)
def A32 : Ann := fun _ => []
theorem B32_eq (p1 : Option Addr) (x2 : Int) (w3 : World) (Rt : Value → World → Prop) (E : List PanicEntry → World → Prop) : vFn Cz A32 Tryz.f32.results.toList (bodyOf Tryz.f32) (startFr Tryz.f32.ntmps [(.pointer p1), (.int .i64 x2)]) w3 (CP Rt E) = B32 p1 x2 w3 Rt E := by kernel_rfl
theorem C32 {p1 : Option Addr} {x2 : Int} {w3 : World} {Rt : Value → World → Prop} {E : List PanicEntry → World → Prop} (h : B32 p1 x2 w3 Rt E) : Calls Cz.P 32 #[(.pointer p1), (.int .i64 x2)] w3 (CP Rt E) := calls_of_B (C := Cz) Cz.ok Tryz.func32 (by kernel_rfl) (B32_eq p1 x2 w3 Rt E) h


end Go.Lf
end

section
set_option linter.unusedVariables false
set_option maxRecDepth 100000
set_option maxHeartbeats 4000000
namespace Go.Lf
open Go Go.Proofs
/-! ### (*lessor/disk.Disk).change: function 33 -/
def B33_j1 (Rt : Value → World → Prop) (E : List PanicEntry → World → Prop) (p1 : Option Addr) (x2 : Int) (v3 : Value) (w13 : World) : Prop :=
  nn p1 fun q14 => ∃ (x15 : Int), w13.cell? q14 = some (.int .i64 x15) ∧ ifB (decide (x2 > x15)) (Rt (.int .i64 3) w13) (vCall Cz v3 [] w13 (CP (fun r17 w16 => r17 = (.tuple #[]) ∧ Rt (.int .i64 0) w16) E))
def B33 (p1 : Option Addr) (x2 : Int) (v3 : Value) (w4 : World) (Rt : Value → World → Prop) (E : List PanicEntry → World → Prop) : Prop :=
  nn p1 fun q5 => ∃ (x6 : Int), w4.cell? (q5.add 3) = some (.int .i64 x6) ∧ ifB (x6 == 0) (Rt (.int .i64 7) w4) (nn p1 fun q7 => ∃ (x8 : Int), w4.cell? (q7.add 3) = some (.int .i64 x8) ∧ ifB (decide (x8 > 0)) (nn p1 fun q9 => ∃ (x10 : Int), w4.cell? (q9.add 3) = some (.int .i64 x10) ∧ nn p1 fun q11 => st w4 (q11.add 3) (.int .i64 (IntKind.i64.wrap (x10 - 1))) fun w12 => B33_j1 Rt E p1 x2 v3 w12) (B33_j1 Rt E p1 x2 v3 w4))
def A33 : Ann := fun _ => []
theorem B33_eq (p1 : Option Addr) (x2 : Int) (v3 : Value) (w4 : World) (Rt : Value → World → Prop) (E : List PanicEntry → World → Prop) : vFn Cz A33 Tryz.f33.results.toList (bodyOf Tryz.f33) (startFr Tryz.f33.ntmps [(.pointer p1), (.int .i64 x2), v3]) w4 (CP Rt E) = B33 p1 x2 v3 w4 Rt E := by kernel_rfl
theorem C33 {p1 : Option Addr} {x2 : Int} {v3 : Value} {w4 : World} {Rt : Value → World → Prop} {E : List PanicEntry → World → Prop} (h : B33 p1 x2 v3 w4 Rt E) : Calls Cz.P 33 #[(.pointer p1), (.int .i64 x2), v3] w4 (CP Rt E) := calls_of_B (C := Cz) Cz.ok Tryz.func33 (by kernel_rfl) (B33_eq p1 x2 v3 w4 Rt E) h


end Go.Lf
end

section
set_option linter.unusedVariables false
set_option maxRecDepth 100000
set_option maxHeartbeats 4000000
namespace Go.Lf
open Go Go.Proofs
/-! ### (*lessor/disk.Disk).Append$1: function 34 -/
def B34 (q1 : Addr) (q2 : Addr) (w3 : World) (Rt : Value → World → Prop) (E : List PanicEntry → World → Prop) : Prop :=
  (fun w4 : World => ∃ (p5 : Option Addr), w4.cell? q1 = some (.pointer p5) ∧ ∃ (p6 : Option Addr), w4.cell? q1 = some (.pointer p6) ∧ nn p6 fun q7 => ∃ (a8 : Option Addr) (n9 : Nat) (c10 : Nat), w4.cell? (q7.add 1) = some (.slice a8 n9 c10) ∧ ∃ (a11 : Option Addr) (n12 : Nat) (c13 : Nat), w4.cell? q2 = some (.slice a11 n12 c13) ∧ (∃ (a14 : Option Addr) (n15 : Nat) (c16 : Nat), ∃ w17 : World, Sem.run Cz.P (Instr.buildSlice 56 2 #[(0, (.slice a8 n9 c10)), (1, (.slice a11 n12 c13))]) w4 = .ok (.slice a14 n15 c16) w17 ∧ ((w17.cell? q1 = w4.cell? q1 ∧ True) ∧ True) ∧ (Calls Cz.P 35 #[(.slice a14 n15 c16)] w17 (CP (fun r22 w21 => ∃ (a18 : Option Addr) (n19 : Nat) (c20 : Nat), r22 = (.slice a18 n19 c20) ∧ ((w21.cell? q1 = w17.cell? q1 ∧ True) ∧ True) ∧ nn p5 fun q23 => (st w21 (q23.add 1) (.slice a18 n19 c20) fun w24 => Rt (.tuple #[]) w24)) (fun _ _ => False))))) (w3.drew)
def A34 : Ann := fun _ => []
theorem B34_eq (q1 : Addr) (q2 : Addr) (w3 : World) (Rt : Value → World → Prop) (E : List PanicEntry → World → Prop) : vFn Cz A34 Tryz.f34.results.toList (bodyOf Tryz.f34) (startFr Tryz.f34.ntmps [(.pointer (some q1)), (.pointer (some q2))]) w3 (CP Rt E) = B34 q1 q2 w3 Rt E := by kernel_rfl
theorem C34 {q1 : Addr} {q2 : Addr} {w3 : World} {Rt : Value → World → Prop} {E : List PanicEntry → World → Prop} (h : B34 q1 q2 w3 Rt E) : Calls Cz.P 34 #[(.pointer (some q1)), (.pointer (some q2))] w3 (CP Rt E) := calls_of_B (C := Cz) Cz.ok Tryz.func34 (by kernel_rfl) (B34_eq q1 q2 w3 Rt E) h


end Go.Lf
end

section
set_option linter.unusedVariables false
set_option maxRecDepth 100000
set_option maxHeartbeats 4000000
namespace Go.Lf
open Go Go.Proofs
/-! ### lessor/disk.own: function 35 -/
def B35_l2 (Rt : Value → World → Prop) (a1 : Option Addr) (n2 : Nat) (a14 : Option Addr) (n15 : Nat) (c16 : Nat) (J18 : List Value → World → Prop) (m19 : List Value → World → Nat) (x20 : Int) (x21 : Int) (w22 : World) : Prop :=
  ifB (decide (x21 < (n2 : Int))) (need (decide (0 ≤ x21) && decide (x21 < (n2 : Int))) (nn a1 fun q23 => ∃ (a24 : Option Addr) (n25 : Nat) (c26 : Nat), w22.cell? (q23.add ((x21).toNat * 1)) = some (.slice a24 n25 c26) ∧ need (decide ((0 : Int) ≤ (n15 : Int)) && decide ((n15 : Int) ≤ (c16 : Int))) (need (decide ((0 : Int) ≤ x20) && decide (x20 ≤ (n15 : Int))) (∃ (x27 : Int), ∃ w28 : World, Sem.run Cz.P (Builtin.copy_ #[22, 22] 3 #[(.slice (slA a14 ((x20).toNat) c16 1) (((n15 : Int)).toNat - (x20).toNat) (c16 - (x20).toNat)), (.slice a24 n25 c26)]) w22 = .ok (.int .i64 x27) w28 ∧ J18 [(.int .i64 (IntKind.i64.wrap (x20 + x27))), (.int .i64 (IntKind.i64.wrap (x21 + 1)))] w28 ∧ m19 [(.int .i64 (IntKind.i64.wrap (x20 + x27))), (.int .i64 (IntKind.i64.wrap (x21 + 1)))] w28 < m19 [(.int .i64 x20), (.int .i64 x21)] w22)))) (Rt (.slice a14 n15 c16) w22)
def B35_l1 (Rt : Value → World → Prop) (a1 : Option Addr) (n2 : Nat) (J5 : List Value → World → Prop) (m6 : List Value → World → Nat) (x7 : Int) (x8 : Int) (w9 : World) : Prop :=
  ifB (decide (x8 < (n2 : Int))) (need (decide (0 ≤ x8) && decide (x8 < (n2 : Int))) (nn a1 fun q10 => ∃ (a11 : Option Addr) (n12 : Nat) (c13 : Nat), w9.cell? (q10.add ((x8).toNat * 1)) = some (.slice a11 n12 c13) ∧ J5 [(.int .i64 (IntKind.i64.wrap (x7 + (n12 : Int)))), (.int .i64 (IntKind.i64.wrap (x8 + 1)))] w9 ∧ m6 [(.int .i64 (IntKind.i64.wrap (x7 + (n12 : Int)))), (.int .i64 (IntKind.i64.wrap (x8 + 1)))] w9 < m6 [(.int .i64 x7), (.int .i64 x8)] w9)) (∃ (a14 : Option Addr) (n15 : Nat) (c16 : Nat), ∃ w17 : World, Sem.run Cz.P (Instr.makeSlice 22 (.int .i64 x7) (.int .i64 x7)) w9 = .ok (.slice a14 n15 c16) w17 ∧ ∃ (J18 : List Value → World → Prop) (m19 : List Value → World → Nat), J18 [(.int .i64 0), (.int .i64 0)] w17 ∧ ∀ (x20 : Int) (x21 : Int) (w22 : World), J18 [(.int .i64 x20), (.int .i64 x21)] w22 → B35_l2 Rt a1 n2 a14 n15 c16 J18 m19 x20 x21 w22)
def B35 (a1 : Option Addr) (n2 : Nat) (c3 : Nat) (w4 : World) (Rt : Value → World → Prop) (E : List PanicEntry → World → Prop) : Prop :=
  ∃ (J5 : List Value → World → Prop) (m6 : List Value → World → Nat), J5 [(.int .i64 0), (.int .i64 0)] w4 ∧ ∀ (x7 : Int) (x8 : Int) (w9 : World), J5 [(.int .i64 x7), (.int .i64 x8)] w9 → B35_l1 Rt a1 n2 J5 m6 x7 x8 w9
def A35 : Ann := fun n => match n with | 0 => [(3, .one (.int .i64)), (12, .one (.int .i64))] | 1 => [(7, .one (.int .i64)), (25, .one (.int .i64))] | _ => []
theorem B35_eq (a1 : Option Addr) (n2 : Nat) (c3 : Nat) (w4 : World) (Rt : Value → World → Prop) (E : List PanicEntry → World → Prop) : vFn Cz A35 Tryz.f35.results.toList (bodyOf Tryz.f35) (startFr Tryz.f35.ntmps [(.slice a1 n2 c3)]) w4 (CP Rt E) = B35 a1 n2 c3 w4 Rt E := by kernel_rfl
theorem C35 {a1 : Option Addr} {n2 : Nat} {c3 : Nat} {w4 : World} {Rt : Value → World → Prop} {E : List PanicEntry → World → Prop} (h : B35 a1 n2 c3 w4 Rt E) : Calls Cz.P 35 #[(.slice a1 n2 c3)] w4 (CP Rt E) := calls_of_B (C := Cz) Cz.ok Tryz.func35 (by kernel_rfl) (B35_eq a1 n2 c3 w4 Rt E) h


end Go.Lf
end

section
set_option linter.unusedVariables false
set_option maxRecDepth 100000
set_option maxHeartbeats 4000000
namespace Go.Lf
open Go Go.Proofs
/-! ### (*lessor/lessorref08.Disk).fails: function 36 -/
def B36_j1 (Rt : Value → World → Prop) (w11 : World) : Prop :=
  Rt (.bool false) w11
def B36 (p1 : Option Addr) (w2 : World) (Rt : Value → World → Prop) (E : List PanicEntry → World → Prop) : Prop :=
  nn p1 fun q3 => ∃ (x4 : Int), w2.cell? (q3.add 3) = some (.int .i64 x4) ∧ ifB (x4 == 0) (Rt (.bool true) w2) (nn p1 fun q5 => ∃ (x6 : Int), w2.cell? (q5.add 3) = some (.int .i64 x6) ∧ ifB (decide (x6 > 0)) (nn p1 fun q7 => ∃ (x8 : Int), w2.cell? (q7.add 3) = some (.int .i64 x8) ∧ nn p1 fun q9 => st w2 (q9.add 3) (.int .i64 (IntKind.i64.wrap (x8 - 1))) fun w10 => B36_j1 Rt w10) (B36_j1 Rt w2))
def A36 : Ann := fun _ => []
theorem B36_eq (p1 : Option Addr) (w2 : World) (Rt : Value → World → Prop) (E : List PanicEntry → World → Prop) : vFn Cz A36 Tryz.f36.results.toList (bodyOf Tryz.f36) (startFr Tryz.f36.ntmps [(.pointer p1)]) w2 (CP Rt E) = B36 p1 w2 Rt E := by kernel_rfl
theorem C36 {p1 : Option Addr} {w2 : World} {Rt : Value → World → Prop} {E : List PanicEntry → World → Prop} (h : B36 p1 w2 Rt E) : Calls Cz.P 36 #[(.pointer p1)] w2 (CP Rt E) := calls_of_B (C := Cz) Cz.ok Tryz.func36 (by kernel_rfl) (B36_eq p1 w2 Rt E) h


end Go.Lf
end

section
set_option linter.unusedVariables false
set_option maxRecDepth 100000
set_option maxHeartbeats 4000000
namespace Go.Lf
open Go Go.Proofs
/-! ### lessor/table.New: function 37 -/
def B37_l1 (Rt : Value → World → Prop) (E : List PanicEntry → World → Prop) (a5 : Option Addr) (n6 : Nat) (c7 : Nat) (k13 : Nat) (x15 : Int) (J18 : List Value → World → Prop) (m19 : List Value → World → Nat) (x20 : Int) (w21 : World) : Prop :=
  ifB (decide (x20 < x15)) (Calls Cz.P 69 #[(.slice a5 n6 c7), (.int .i64 x20)] w21 (CP (fun r25 w24 => ∃ (x22 : Int) (x23 : Int), r25 = (.tuple #[(.int .u32 x22), (.int .i64 x23)]) ∧ (fun w26 : World => ∃ (m27 : Option Nat), w26.cell? ⟨k13, 0, none⟩ = some (.map m27) ∧ (Calls Cz.P 60 #[(.int .u32 x22), (.int .i64 0), (.int .i64 0)] w26 (CP (fun r37 w36 => ∃ (x28 : Int) (x29 : Int) (s30 : ByteArray) (x31 : Int) (x32 : Int) (x33 : Int) (x34 : Int) (x35 : Int), r37 = (.agg #[(.int .u32 x28), (.int .i64 x29), (.string s30), (.int .i64 x31), (.int .i64 x32), (.int .i64 x33), (.int .i64 x34), (.int .i64 x35)]) ∧ ((w36.cell? ⟨k13, 0, none⟩ = w26.cell? ⟨k13, 0, none⟩ ∧ True) ∧ True) ∧ (∃ w38 : World, Sem.run Cz.P (Instr.mapUpdate 108 (.map m27) (.int .u32 x22) (.agg #[(.int .u32 x28), (.int .i64 x29), (.string s30), (.int .i64 x31), (.int .i64 x32), (.int .i64 x33), (.int .i64 x34), (.int .i64 x35)])) w36 = .ok () w38 ∧ J18 [(.int .i64 (IntKind.i64.wrap (x20 + 1)))] w38 ∧ m19 [(.int .i64 (IntKind.i64.wrap (x20 + 1)))] w38 < m19 [(.int .i64 x20)] w21)) (fun _ _ => False)))) (w24.drew)) E)) (Rt (.tuple #[(.pointer (some ⟨k13, 0, none⟩)), (.int .i64 0)]) w21)
def B37 (a1 : Option Addr) (n2 : Nat) (c3 : Nat) (w4 : World) (Rt : Value → World → Prop) (E : List PanicEntry → World → Prop) : Prop :=
  Calls Cz.P 67 #[(.slice a1 n2 c3)] w4 (CP (fun r10 w9 => ∃ (a5 : Option Addr) (n6 : Nat) (c7 : Nat) (x8 : Int), r10 = (.tuple #[(.slice a5 n6 c7), (.int .i64 x8)]) ∧ ifB (x8 != 0) (Rt (.tuple #[(.pointer none), (.int .i64 x8)]) w9) (∃ (m11 : Option Nat), ∃ w12 : World, Sem.run Cz.P (Instr.makeMap 108 none) w9 = .ok (.map m11) w12 ∧ nw w12 (.cells #[(.map m11)] 110) fun k13 w14 => Calls Cz.P 68 #[(.slice a5 n6 c7)] w14 (CP (fun r17 w16 => ∃ (x15 : Int), r17 = (.int .i64 x15) ∧ ∃ (J18 : List Value → World → Prop) (m19 : List Value → World → Nat), J18 [(.int .i64 0)] w16 ∧ ∀ (x20 : Int) (w21 : World), J18 [(.int .i64 x20)] w21 → B37_l1 Rt E a5 n6 c7 k13 x15 J18 m19 x20 w21) E))) E)
def A37 : Ann := fun n => match n with | 0 => [(23, .one (.int .i64))] | _ => []
theorem B37_eq (a1 : Option Addr) (n2 : Nat) (c3 : Nat) (w4 : World) (Rt : Value → World → Prop) (E : List PanicEntry → World → Prop) : vFn Cz A37 Tryz.f37.results.toList (bodyOf Tryz.f37) (startFr Tryz.f37.ntmps [(.slice a1 n2 c3)]) w4 (CP Rt E) = B37 a1 n2 c3 w4 Rt E := by kernel_rfl
theorem C37 {a1 : Option Addr} {n2 : Nat} {c3 : Nat} {w4 : World} {Rt : Value → World → Prop} {E : List PanicEntry → World → Prop} (h : B37 a1 n2 c3 w4 Rt E) : Calls Cz.P 37 #[(.slice a1 n2 c3)] w4 (CP Rt E) := calls_of_B (C := Cz) Cz.ok Tryz.func37 (by kernel_rfl) (B37_eq a1 n2 c3 w4 Rt E) h


end Go.Lf
end

section
set_option linter.unusedVariables false
set_option maxRecDepth 100000
set_option maxHeartbeats 4000000
namespace Go.Lf
open Go Go.Proofs
/-! ### lessor/wal.Open: function 38 -/
def B38_j1 (Rt : Value → World → Prop) (p1 : Option Addr) (w17 : World) : Prop :=
  nw w17 (.cells #[(.pointer p1)] 112) fun k18 w19 => Rt (.tuple #[(.pointer (some ⟨k18, 0, none⟩)), (.int .i64 0)]) w19
def B38 (p1 : Option Addr) (w2 : World) (Rt : Value → World → Prop) (E : List PanicEntry → World → Prop) : Prop :=
  ifB (p1.isNone) (Rt (.tuple #[(.pointer none), (.int .i64 1)]) w2) (Calls Cz.P 19 #[(.pointer p1)] w2 (CP (fun r7 w6 => ∃ (a3 : Option Addr) (n4 : Nat) (c5 : Nat), r7 = (.slice a3 n4 c5) ∧ Calls Cz.P 70 #[(.slice a3 n4 c5)] w6 (CP (fun r13 w12 => ∃ (a8 : Option Addr) (n9 : Nat) (c10 : Nat) (x11 : Int), r13 = (.tuple #[(.slice a8 n9 c10), (.int .i64 x11)]) ∧ ifB (decide (x11 < (n4 : Int))) (need (decide ((0 : Int) ≤ x11) && decide (x11 ≤ (c5 : Int))) (need (true && decide ((0 : Int) ≤ x11)) (Calls Cz.P 71 #[(.pointer p1), (.slice (slA a3 0 c5 1) ((x11).toNat - 0) (c5 - 0))] w12 (CP (fun r16 w15 => ∃ (x14 : Int), r16 = (.int .i64 x14) ∧ ifB (x14 != 0) (Rt (.tuple #[(.pointer none), (.int .i64 x14)]) w15) (B38_j1 Rt p1 w15)) E)))) (B38_j1 Rt p1 w12)) E)) E))
def A38 : Ann := fun _ => []
theorem B38_eq (p1 : Option Addr) (w2 : World) (Rt : Value → World → Prop) (E : List PanicEntry → World → Prop) : vFn Cz A38 Tryz.f38.results.toList (bodyOf Tryz.f38) (startFr Tryz.f38.ntmps [(.pointer p1)]) w2 (CP Rt E) = B38 p1 w2 Rt E := by kernel_rfl
theorem C38 {p1 : Option Addr} {w2 : World} {Rt : Value → World → Prop} {E : List PanicEntry → World → Prop} (h : B38 p1 w2 Rt E) : Calls Cz.P 38 #[(.pointer p1)] w2 (CP Rt E) := calls_of_B (C := Cz) Cz.ok Tryz.func38 (by kernel_rfl) (B38_eq p1 w2 Rt E) h


end Go.Lf
end

section
set_option linter.unusedVariables false
set_option maxRecDepth 100000
set_option maxHeartbeats 4000000
namespace Go.Lf
open Go Go.Proofs
/-! ### lessor/store.each: function 39 -/
def B39_l1 (Rt : Value → World → Prop) (E : List PanicEntry → World → Prop) (a1 : Option Addr) (n2 : Nat) (v4 : Value) (J6 : List Value → World → Prop) (m7 : List Value → World → Nat) (x8 : Int) (w9 : World) : Prop :=
  ifB (decide (x8 < (n2 : Int))) (need (decide (0 ≤ x8) && decide (x8 < (n2 : Int))) (nn a1 fun q10 => ∃ (a11 : Option Addr) (n12 : Nat) (c13 : Nat), w9.cell? (q10.add ((x8).toNat * 1)) = some (.slice a11 n12 c13) ∧ vCall Cz v4 [(.slice a11 n12 c13)] w9 (CP (fun r15 w14 => r15 = (.tuple #[]) ∧ J6 [(.int .i64 (IntKind.i64.wrap (x8 + 1)))] w14 ∧ m7 [(.int .i64 (IntKind.i64.wrap (x8 + 1)))] w14 < m7 [(.int .i64 x8)] w9) E))) (Rt (.tuple #[]) w9)
def B39 (a1 : Option Addr) (n2 : Nat) (c3 : Nat) (v4 : Value) (w5 : World) (Rt : Value → World → Prop) (E : List PanicEntry → World → Prop) : Prop :=
  ∃ (J6 : List Value → World → Prop) (m7 : List Value → World → Nat), J6 [(.int .i64 0)] w5 ∧ ∀ (x8 : Int) (w9 : World), J6 [(.int .i64 x8)] w9 → B39_l1 Rt E a1 n2 v4 J6 m7 x8 w9
def A39 : Ann := fun n => match n with | 0 => [(8, .one (.int .i64))] | _ => []
theorem B39_eq (a1 : Option Addr) (n2 : Nat) (c3 : Nat) (v4 : Value) (w5 : World) (Rt : Value → World → Prop) (E : List PanicEntry → World → Prop) : vFn Cz A39 Tryz.f39.results.toList (bodyOf Tryz.f39) (startFr Tryz.f39.ntmps [(.slice a1 n2 c3), v4]) w5 (CP Rt E) = B39 a1 n2 c3 v4 w5 Rt E := by kernel_rfl
theorem C39 {a1 : Option Addr} {n2 : Nat} {c3 : Nat} {v4 : Value} {w5 : World} {Rt : Value → World → Prop} {E : List PanicEntry → World → Prop} (h : B39 a1 n2 c3 v4 w5 Rt E) : Calls Cz.P 39 #[(.slice a1 n2 c3), v4] w5 (CP Rt E) := calls_of_B (C := Cz) Cz.ok Tryz.func39 (by kernel_rfl) (B39_eq a1 n2 c3 v4 w5 Rt E) h


end Go.Lf
end

section
set_option linter.unusedVariables false
set_option maxRecDepth 100000
set_option maxHeartbeats 4000000
namespace Go.Lf
open Go Go.Proofs
/-! ### (*lessor/wal.Log).Records: function 40 -/
def B40 (p1 : Option Addr) (w2 : World) (Rt : Value → World → Prop) (E : List PanicEntry → World → Prop) : Prop :=
  nn p1 fun q3 => ∃ (p4 : Option Addr), w2.cell? q3 = some (.pointer p4) ∧ Calls Cz.P 19 #[(.pointer p4)] w2 (CP (fun r9 w8 => ∃ (a5 : Option Addr) (n6 : Nat) (c7 : Nat), r9 = (.slice a5 n6 c7) ∧ Calls Cz.P 70 #[(.slice a5 n6 c7)] w8 (CP (fun r15 w14 => ∃ (a10 : Option Addr) (n11 : Nat) (c12 : Nat) (x13 : Int), r15 = (.tuple #[(.slice a10 n11 c12), (.int .i64 x13)]) ∧ Rt (.slice a10 n11 c12) w14) E)) E)
def A40 : Ann := fun _ => []
theorem B40_eq (p1 : Option Addr) (w2 : World) (Rt : Value → World → Prop) (E : List PanicEntry → World → Prop) : vFn Cz A40 Tryz.f40.results.toList (bodyOf Tryz.f40) (startFr Tryz.f40.ntmps [(.pointer p1)]) w2 (CP Rt E) = B40 p1 w2 Rt E := by kernel_rfl
theorem C40 {p1 : Option Addr} {w2 : World} {Rt : Value → World → Prop} {E : List PanicEntry → World → Prop} (h : B40 p1 w2 Rt E) : Calls Cz.P 40 #[(.pointer p1)] w2 (CP Rt E) := calls_of_B (C := Cz) Cz.ok Tryz.func40 (by kernel_rfl) (B40_eq p1 w2 Rt E) h


end Go.Lf
end

section
set_option linter.unusedVariables false
set_option maxRecDepth 100000
set_option maxHeartbeats 4000000
namespace Go.Lf
open Go Go.Proofs
/-! ### (*lessor/store.Store).do: function 41 -/
def B41_j7 (Rt : Value → World → Prop) (w70 : World) : Prop :=
  Rt (.tuple #[]) w70
def B41_j1 (Rt : Value → World → Prop) (w43 : World) : Prop :=
  B41_j7 Rt w43
def B41_j6 (Rt : Value → World → Prop) (w69 : World) : Prop :=
  B41_j7 Rt w69
def B41_j5 (Rt : Value → World → Prop) (w68 : World) : Prop :=
  B41_j6 Rt w68
def B41_j4 (Rt : Value → World → Prop) (w67 : World) : Prop :=
  B41_j5 Rt w67
def B41_l1 (Rt : Value → World → Prop) (p1 : Option Addr) (a2 : Option Addr) (n3 : Nat) (c4 : Nat) (J58 : List Value → World → Prop) (m59 : List Value → World → Nat) (x60 : Int) (x61 : Int) (w62 : World) : Prop :=
  ifB (decide (x61 < (((((n3 : Int)).toNat - 1) : Nat) : Int))) (need (decide (0 ≤ x61) && decide (x61 < (((((n3 : Int)).toNat - 1) : Nat) : Int))) (nn (slA a2 1 c4 1) fun q63 => ∃ (x64 : Int), w62.cell? (q63.add ((x61).toNat * 1)) = some (.int .u8 x64) ∧ J58 [(.int .i64 (bitop .or .i64 (IntKind.i64.wrap (x60 * 2 ^ 8)) (IntKind.i64.wrap x64))), (.int .i64 (IntKind.i64.wrap (x61 + 1)))] w62 ∧ m59 [(.int .i64 (bitop .or .i64 (IntKind.i64.wrap (x60 * 2 ^ 8)) (IntKind.i64.wrap x64))), (.int .i64 (IntKind.i64.wrap (x61 + 1)))] w62 < m59 [(.int .i64 x60), (.int .i64 x61)] w62)) (ifB (decide (x60 ≤ 536870912)) (nn p1 fun q65 => st w62 (q65.add 3) (.int .i64 x60) fun w66 => B41_j4 Rt w66) (B41_j4 Rt w62))
def B41_j3 (Rt : Value → World → Prop) (p1 : Option Addr) (a2 : Option Addr) (n3 : Nat) (c4 : Nat) (b56 : Bool) (w57 : World) : Prop :=
  ifB b56 (∃ (J58 : List Value → World → Prop) (m59 : List Value → World → Nat), J58 [(.int .i64 0), (.int .i64 0)] w57 ∧ ∀ (x60 : Int) (x61 : Int) (w62 : World), J58 [(.int .i64 x60), (.int .i64 x61)] w62 → B41_l1 Rt p1 a2 n3 c4 J58 m59 x60 x61 w62) (B41_j5 Rt w57)
def B41_j2 (Rt : Value → World → Prop) (p1 : Option Addr) (a2 : Option Addr) (n3 : Nat) (c4 : Nat) (b48 : Bool) (w49 : World) : Prop :=
  ifB b48 (need (decide (0 ≤ (0 : Int)) && decide ((0 : Int) < (((((n3 : Int)).toNat - 1) : Nat) : Int))) (nn (slA a2 1 c4 1) fun q50 => ∃ (x51 : Int), w49.cell? q50 = some (.int .u8 x51) ∧ nn p1 fun q52 => st w49 (q52.add 2) (.int .i64 (IntKind.i64.wrap x51)) fun w53 => B41_j6 Rt w53)) (need (decide (0 ≤ (0 : Int)) && decide ((0 : Int) < (n3 : Int))) (nn a2 fun q54 => ∃ (x55 : Int), w49.cell? q54 = some (.int .u8 x55) ∧ ifB (x55 == 70) (B41_j3 Rt p1 a2 n3 c4 ((((((n3 : Int)).toNat - 1) : Nat) : Int) == 4) w49) (B41_j3 Rt p1 a2 n3 c4 false w49)))
def B41 (p1 : Option Addr) (a2 : Option Addr) (n3 : Nat) (c4 : Nat) (w5 : World) (Rt : Value → World → Prop) (E : List PanicEntry → World → Prop) : Prop :=
  need (decide ((0 : Int) ≤ (n3 : Int)) && decide ((n3 : Int) ≤ (c4 : Int))) (need (true && decide ((1 : Int) ≤ (n3 : Int))) (need (decide (0 ≤ (0 : Int)) && decide ((0 : Int) < (n3 : Int))) (nn a2 fun q6 => ∃ (x7 : Int), w5.cell? q6 = some (.int .u8 x7) ∧ ifB (x7 == 76) (Calls Cz.P 72 #[(.slice (slA a2 1 c4 1) (((n3 : Int)).toNat - 1) (c4 - 1))] w5 (CP (fun r18 w17 => ∃ (x8 : Int) (x9 : Int) (s10 : ByteArray) (x11 : Int) (x12 : Int) (x13 : Int) (x14 : Int) (x15 : Int) (x16 : Int), r18 = (.tuple #[(.agg #[(.int .u32 x8), (.int .i64 x9), (.string s10), (.int .i64 x11), (.int .i64 x12), (.int .i64 x13), (.int .i64 x14), (.int .i64 x15)]), (.int .i64 x16)]) ∧ nw w17 (.cells #[(.int .u32 0), (.int .i64 0), (.string ⟨#[]⟩), (.int .i64 0), (.int .i64 0), (.int .i64 0), (.int .i64 0), (.int .i64 0)] 49) fun k19 w20 => st w20 ⟨k19, 0, none⟩ (.int .u32 x8) fun w21 => st w21 ⟨k19, 1, none⟩ (.int .i64 x9) fun w22 => st w22 ⟨k19, 2, none⟩ (.string s10) fun w23 => st w23 ⟨k19, 3, none⟩ (.int .i64 x11) fun w24 => st w24 ⟨k19, 4, none⟩ (.int .i64 x12) fun w25 => st w25 ⟨k19, 5, none⟩ (.int .i64 x13) fun w26 => st w26 ⟨k19, 6, none⟩ (.int .i64 x14) fun w27 => st w27 ⟨k19, 7, none⟩ (.int .i64 x15) fun w28 => ifB (x16 == 0) ((fun w29 : World => nn p1 fun q30 => ∃ (p31 : Option Addr), w29.cell? (q30.add 1) = some (.pointer p31) ∧ ∃ (x32 : Int) (x33 : Int) (s34 : ByteArray) (x35 : Int) (x36 : Int) (x37 : Int) (x38 : Int) (x39 : Int), (w29.cell? ⟨k19, 0, none⟩ = some (.int .u32 x32) ∧ w29.cell? ⟨k19, 1, none⟩ = some (.int .i64 x33) ∧ w29.cell? ⟨k19, 2, none⟩ = some (.string s34) ∧ w29.cell? ⟨k19, 3, none⟩ = some (.int .i64 x35) ∧ w29.cell? ⟨k19, 4, none⟩ = some (.int .i64 x36) ∧ w29.cell? ⟨k19, 5, none⟩ = some (.int .i64 x37) ∧ w29.cell? ⟨k19, 6, none⟩ = some (.int .i64 x38) ∧ w29.cell? ⟨k19, 7, none⟩ = some (.int .i64 x39) ∧ True) ∧ (Calls Cz.P 73 #[(.pointer p31), (.agg #[(.int .u32 x32), (.int .i64 x33), (.string s34), (.int .i64 x35), (.int .i64 x36), (.int .i64 x37), (.int .i64 x38), (.int .i64 x39)])] w29 (CP (fun r42 w41 => ∃ (x40 : Int), r42 = (.int .i64 x40) ∧ B41_j1 Rt w41) (fun _ _ => False)))) (w28.drew)) (B41_j1 Rt w28)) E)) (need (decide (0 ≤ (0 : Int)) && decide ((0 : Int) < (n3 : Int))) (nn a2 fun q44 => ∃ (x45 : Int), w5.cell? q44 = some (.int .u8 x45) ∧ ifB (x45 == 83) (ifB ((((((n3 : Int)).toNat - 1) : Nat) : Int) == 1) (need (decide (0 ≤ (0 : Int)) && decide ((0 : Int) < (((((n3 : Int)).toNat - 1) : Nat) : Int))) (nn (slA a2 1 c4 1) fun q46 => ∃ (x47 : Int), w5.cell? q46 = some (.int .u8 x47) ∧ B41_j2 Rt p1 a2 n3 c4 (decide (x47 ≤ 8)) w5)) (B41_j2 Rt p1 a2 n3 c4 false w5)) (B41_j2 Rt p1 a2 n3 c4 false w5))))))
def A41 : Ann := fun n => match n with | 0 => [(7, .one (.int .i64)), (65, .one (.int .i64))] | _ => []
theorem B41_eq (p1 : Option Addr) (a2 : Option Addr) (n3 : Nat) (c4 : Nat) (w5 : World) (Rt : Value → World → Prop) (E : List PanicEntry → World → Prop) : vFn Cz A41 Tryz.f41.results.toList (bodyOf Tryz.f41) (startFr Tryz.f41.ntmps [(.pointer p1), (.slice a2 n3 c4)]) w5 (CP Rt E) = B41 p1 a2 n3 c4 w5 Rt E := by kernel_rfl
theorem C41 {p1 : Option Addr} {a2 : Option Addr} {n3 : Nat} {c4 : Nat} {w5 : World} {Rt : Value → World → Prop} {E : List PanicEntry → World → Prop} (h : B41 p1 a2 n3 c4 w5 Rt E) : Calls Cz.P 41 #[(.pointer p1), (.slice a2 n3 c4)] w5 (CP Rt E) := calls_of_B (C := Cz) Cz.ok Tryz.func41 (by kernel_rfl) (B41_eq p1 a2 n3 c4 w5 Rt E) h


end Go.Lf
end

section
set_option linter.unusedVariables false
set_option maxRecDepth 100000
set_option maxHeartbeats 4000000
namespace Go.Lf
open Go Go.Proofs
/-! ### lessor/lessorref12.New: function 42 -/
def B42_l1 (Rt : Value → World → Prop) (E : List PanicEntry → World → Prop) (a5 : Option Addr) (n6 : Nat) (c7 : Nat) (k11 : Nat) (J13 : List Value → World → Prop) (m14 : List Value → World → Nat) (x15 : Int) (w16 : World) : Prop :=
  Calls Cz.P 75 #[(.slice a5 n6 c7)] w16 (CP (fun r19 w18 => ∃ (x17 : Int), r19 = (.int .i64 x17) ∧ ifB (decide (x15 < x17)) (Calls Cz.P 76 #[(.slice a5 n6 c7), (.int .i64 x15)] w18 (CP (fun r23 w22 => ∃ (x20 : Int) (x21 : Int), r23 = (.tuple #[(.int .u32 x20), (.int .i64 x21)]) ∧ (fun w24 : World => ∃ (a25 : Option Addr) (n26 : Nat) (c27 : Nat), w24.cell? ⟨k11, 0, none⟩ = some (.slice a25 n26 c27) ∧ (Calls Cz.P 77 #[(.int .u32 x20), (.int .i64 0), (.int .i64 0)] w24 (CP (fun r37 w36 => ∃ (x28 : Int) (x29 : Int) (s30 : ByteArray) (x31 : Int) (x32 : Int) (x33 : Int) (x34 : Int) (x35 : Int), r37 = (.agg #[(.int .u32 x28), (.int .i64 x29), (.string s30), (.int .i64 x31), (.int .i64 x32), (.int .i64 x33), (.int .i64 x34), (.int .i64 x35)]) ∧ ((w36.cell? ⟨k11, 0, none⟩ = w24.cell? ⟨k11, 0, none⟩ ∧ True) ∧ True) ∧ (∃ (a38 : Option Addr) (n39 : Nat) (c40 : Nat), ∃ w41 : World, Sem.run Cz.P (Instr.buildSlice 59 1 #[(0, (.agg #[(.int .u32 x28), (.int .i64 x29), (.string s30), (.int .i64 x31), (.int .i64 x32), (.int .i64 x33), (.int .i64 x34), (.int .i64 x35)]))]) w36 = .ok (.slice a38 n39 c40) w41 ∧ ((w41.cell? ⟨k11, 0, none⟩ = w36.cell? ⟨k11, 0, none⟩ ∧ True) ∧ True) ∧ (∃ (a42 : Option Addr) (n43 : Nat) (c44 : Nat), ∃ w45 : World, Sem.run Cz.P (Builtin.append_ #[59, 59] 59 #[(.slice a25 n26 c27), (.slice a38 n39 c40)]) w41 = .ok (.slice a42 n43 c44) w45 ∧ (True) ∧ (st w45 ⟨k11, 0, none⟩ (.slice a42 n43 c44) fun w46 => J13 [(.int .i64 (IntKind.i64.wrap (x15 + 1)))] w46 ∧ m14 [(.int .i64 (IntKind.i64.wrap (x15 + 1)))] w46 < m14 [(.int .i64 x15)] w16)))) (fun _ _ => False)))) (w22.drew)) E)) (Rt (.tuple #[(.pointer (some ⟨k11, 0, none⟩)), (.int .i64 0)]) w18)) E)
def B42 (a1 : Option Addr) (n2 : Nat) (c3 : Nat) (w4 : World) (Rt : Value → World → Prop) (E : List PanicEntry → World → Prop) : Prop :=
  Calls Cz.P 74 #[(.slice a1 n2 c3)] w4 (CP (fun r10 w9 => ∃ (a5 : Option Addr) (n6 : Nat) (c7 : Nat) (x8 : Int), r10 = (.tuple #[(.slice a5 n6 c7), (.int .i64 x8)]) ∧ ifB (x8 != 0) (Rt (.tuple #[(.pointer none), (.int .i64 x8)]) w9) (nw w9 (.cells #[(.slice none 0 0)] 94) fun k11 w12 => ∃ (J13 : List Value → World → Prop) (m14 : List Value → World → Nat), J13 [(.int .i64 0)] w12 ∧ ∀ (x15 : Int) (w16 : World), J13 [(.int .i64 x15)] w16 → B42_l1 Rt E a5 n6 c7 k11 J13 m14 x15 w16)) E)
def A42 : Ann := fun n => match n with | 0 => [(7, .one (.int .i64))] | _ => []
theorem B42_eq (a1 : Option Addr) (n2 : Nat) (c3 : Nat) (w4 : World) (Rt : Value → World → Prop) (E : List PanicEntry → World → Prop) : vFn Cz A42 Tryz.f42.results.toList (bodyOf Tryz.f42) (startFr Tryz.f42.ntmps [(.slice a1 n2 c3)]) w4 (CP Rt E) = B42 a1 n2 c3 w4 Rt E := by kernel_rfl
theorem C42 {a1 : Option Addr} {n2 : Nat} {c3 : Nat} {w4 : World} {Rt : Value → World → Prop} {E : List PanicEntry → World → Prop} (h : B42 a1 n2 c3 w4 Rt E) : Calls Cz.P 42 #[(.slice a1 n2 c3)] w4 (CP Rt E) := calls_of_B (C := Cz) Cz.ok Tryz.func42 (by kernel_rfl) (B42_eq a1 n2 c3 w4 Rt E) h


end Go.Lf
end

section
set_option linter.unusedVariables false
set_option maxRecDepth 100000
set_option maxHeartbeats 4000000
namespace Go.Lf
open Go Go.Proofs
/-! ### lessor/lessorref10.Open: function 43 -/
def B43_j1 (Rt : Value → World → Prop) (p1 : Option Addr) (w24 : World) : Prop :=
  nw w24 (.cells #[(.pointer p1)] 123) fun k25 w26 => Rt (.tuple #[(.pointer (some ⟨k25, 0, none⟩)), (.int .i64 0)]) w26
def B43 (p1 : Option Addr) (w2 : World) (Rt : Value → World → Prop) (E : List PanicEntry → World → Prop) : Prop :=
  ifB (p1.isNone) (Rt (.tuple #[(.pointer none), (.int .i64 1)]) w2) (nn p1 fun q3 => ∃ (a4 : Option Addr) (n5 : Nat) (c6 : Nat), w2.cell? (q3.add 1) = some (.slice a4 n5 c6) ∧ Calls Cz.P 78 #[(.slice a4 n5 c6)] w2 (CP (fun r12 w11 => ∃ (a7 : Option Addr) (n8 : Nat) (c9 : Nat) (x10 : Int), r12 = (.tuple #[(.slice a7 n8 c9), (.int .i64 x10)]) ∧ nn p1 fun q13 => ∃ (a14 : Option Addr) (n15 : Nat) (c16 : Nat), w11.cell? (q13.add 1) = some (.slice a14 n15 c16) ∧ ifB (x10 != (n15 : Int)) (nn p1 fun q17 => ∃ (a18 : Option Addr) (n19 : Nat) (c20 : Nat), w11.cell? (q17.add 1) = some (.slice a18 n19 c20) ∧ need (decide ((0 : Int) ≤ x10) && decide (x10 ≤ (c20 : Int))) (need (true && decide ((0 : Int) ≤ x10)) (Calls Cz.P 79 #[(.pointer p1), (.slice (slA a18 0 c20 1) ((x10).toNat - 0) (c20 - 0))] w11 (CP (fun r23 w22 => ∃ (x21 : Int), r23 = (.int .i64 x21) ∧ ifB (x21 != 0) (Rt (.tuple #[(.pointer none), (.int .i64 x21)]) w22) (B43_j1 Rt p1 w22)) E)))) (B43_j1 Rt p1 w11)) E))
def A43 : Ann := fun _ => []
theorem B43_eq (p1 : Option Addr) (w2 : World) (Rt : Value → World → Prop) (E : List PanicEntry → World → Prop) : vFn Cz A43 Tryz.f43.results.toList (bodyOf Tryz.f43) (startFr Tryz.f43.ntmps [(.pointer p1)]) w2 (CP Rt E) = B43 p1 w2 Rt E := by kernel_rfl
theorem C43 {p1 : Option Addr} {w2 : World} {Rt : Value → World → Prop} {E : List PanicEntry → World → Prop} (h : B43 p1 w2 Rt E) : Calls Cz.P 43 #[(.pointer p1)] w2 (CP Rt E) := calls_of_B (C := Cz) Cz.ok Tryz.func43 (by kernel_rfl) (B43_eq p1 w2 Rt E) h


end Go.Lf
end
