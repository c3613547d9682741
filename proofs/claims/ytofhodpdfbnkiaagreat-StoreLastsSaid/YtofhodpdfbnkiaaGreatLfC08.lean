/- Part 8 of the lemmas that a proof leans on; no claim is made here. By an AI agent. -/
import Derived.Test.YtofhodpdfbnkiaaGreatLfC07
section
set_option linter.unusedVariables false
set_option maxRecDepth 100000
set_option maxHeartbeats 4000000
namespace Go.Lf
open Go Go.Proofs
/-! ### lessor/lessorlaw13.StoreOpens: function 3 -/
def B3_j3 (Rt : Value → World → Prop) (b40 : Bool) (w41 : World) : Prop :=
  Rt (.bool b40) w41
def B3_j2 (Rt : Value → World → Prop) (E : List PanicEntry → World → Prop) (p27 : Option Addr) (p31 : Option Addr) (b35 : Bool) (w36 : World) : Prop :=
  ifB b35 (Rt (.bool false) w36) (ifB (p27.isNone) (B3_j3 Rt true w36) (Calls Cz.P 15 #[(.pointer p27), (.pointer p31)] w36 (CP (fun r39 w38 => ∃ (b37 : Bool), r39 = (.bool b37) ∧ B3_j3 Rt b37 w38) E)))
def B3_j1 (Rt : Value → World → Prop) (E : List PanicEntry → World → Prop) (a1 : Option Addr) (n2 : Nat) (c3 : Nat) (a4 : Option Addr) (n5 : Nat) (c6 : Nat) (b8 : Bool) (b11 : Bool) (w12 : World) : Prop :=
  ifB b11 (Rt (.bool b8) w12) (Calls Cz.P 9 #[(.int .i64 5000)] w12 (CP (fun r16 w15 => ∃ (p13 : Option Addr) (x14 : Int), r16 = (.tuple #[(.pointer p13), (.int .i64 x14)]) ∧ Calls Cz.P 10 #[(.int .i64 5000)] w15 (CP (fun r20 w19 => ∃ (p17 : Option Addr) (x18 : Int), r20 = (.tuple #[(.pointer p17), (.int .i64 x18)]) ∧ Calls Cz.P 11 #[(.pointer p13), (.slice a1 n2 c3)] w19 (CP (fun r23 w22 => ∃ (x21 : Int), r23 = (.int .i64 x21) ∧ Calls Cz.P 12 #[(.pointer p17), (.slice a1 n2 c3)] w22 (CP (fun r26 w25 => ∃ (x24 : Int), r26 = (.int .i64 x24) ∧ Calls Cz.P 13 #[(.pointer p13), (.slice a4 n5 c6)] w25 (CP (fun r30 w29 => ∃ (p27 : Option Addr) (x28 : Int), r30 = (.tuple #[(.pointer p27), (.int .i64 x28)]) ∧ Calls Cz.P 14 #[(.pointer p17), (.slice a4 n5 c6)] w29 (CP (fun r34 w33 => ∃ (p31 : Option Addr) (x32 : Int), r34 = (.tuple #[(.pointer p31), (.int .i64 x32)]) ∧ ifB (x28 != x32) (B3_j2 Rt E p27 p31 true w33) (B3_j2 Rt E p27 p31 (!(p27.isNone == p31.isNone)) w33)) E)) E)) E)) E)) E)) E))
def B3 (a1 : Option Addr) (n2 : Nat) (c3 : Nat) (a4 : Option Addr) (n5 : Nat) (c6 : Nat) (w7 : World) (Rt : Value → World → Prop) (E : List PanicEntry → World → Prop) : Prop :=
  Calls Cz.P 8 #[] w7 (CP (fun r10 w9 => ∃ (b8 : Bool), r10 = (.bool b8) ∧ ifB (!b8) (B3_j1 Rt E a1 n2 c3 a4 n5 c6 b8 true w9) (ifB (decide ((n2 : Int) > 3000)) (B3_j1 Rt E a1 n2 c3 a4 n5 c6 b8 true w9) (B3_j1 Rt E a1 n2 c3 a4 n5 c6 b8 (decide ((n5 : Int) > 50)) w9))) E)
def A3 : Ann := fun _ => []
theorem B3_eq (a1 : Option Addr) (n2 : Nat) (c3 : Nat) (a4 : Option Addr) (n5 : Nat) (c6 : Nat) (w7 : World) (Rt : Value → World → Prop) (E : List PanicEntry → World → Prop) : vFn Cz A3 Tryz.f3.results.toList (bodyOf Tryz.f3) (startFr Tryz.f3.ntmps [(.slice a1 n2 c3), (.slice a4 n5 c6)]) w7 (CP Rt E) = B3 a1 n2 c3 a4 n5 c6 w7 Rt E := by kernel_rfl
theorem C3 {a1 : Option Addr} {n2 : Nat} {c3 : Nat} {a4 : Option Addr} {n5 : Nat} {c6 : Nat} {w7 : World} {Rt : Value → World → Prop} {E : List PanicEntry → World → Prop} (h : B3 a1 n2 c3 a4 n5 c6 w7 Rt E) : Calls Cz.P 3 #[(.slice a1 n2 c3), (.slice a4 n5 c6)] w7 (CP Rt E) := calls_of_B (C := Cz) Cz.ok Tryz.func3 (by kernel_rfl) (B3_eq a1 n2 c3 a4 n5 c6 w7 Rt E) h


end Go.Lf
end

section
set_option linter.unusedVariables false
set_option maxRecDepth 100000
set_option maxHeartbeats 4000000
namespace Go.Lf
open Go Go.Proofs
/-! ### lessor/lessorlaw13.StoreScripts: function 4 -/
def B4_j2 (Rt : Value → World → Prop) (b22 : Bool) (w23 : World) : Prop :=
  Rt (.bool b22) w23
def B4_j4 (Rt : Value → World → Prop) (E : List PanicEntry → World → Prop) (p12 : Option Addr) (p16 : Option Addr) (J44 : List Value → World → Prop) (m45 : List Value → World → Nat) (p46 : Option Addr) (p47 : Option Addr) (x48 : Int) (w49 : World) (p61 : Option Addr) (p62 : Option Addr) (b63 : Bool) (b66 : Bool) (w67 : World) : Prop :=
  ifB b66 (Rt (.bool b63) w67) (Calls Cz.P 15 #[(.pointer p61), (.pointer p62)] w67 (CP (fun r70 w69 => ∃ (b68 : Bool), r70 = (.bool b68) ∧ ∃ (J71 : List Value → World → Prop), ((fun w72 : World => ifB (!b68) (((True) ∧ ((True) ∧ (J71 [(.bool true)] w72)) ∧ ((J71 [(.bool true)] w72))) ∧ ((True) ∧ ((J71 [(.bool true)] w72)))) (nn p16 fun q73 => ∃ (a74 : Option Addr) (n75 : Nat) (c76 : Nat), w72.cell? (q73.add 1) = some (.slice a74 n75 c76) ∧ (Calls Cz.P 19 #[(.pointer p12)] w72 (CP (fun r81 w80 => ∃ (a77 : Option Addr) (n78 : Nat) (c79 : Nat), r81 = (.slice a77 n78 c79) ∧ ((w80.cell? (q73.add 1) = w72.cell? (q73.add 1) ∧ True) ∧ True) ∧ (∃ (s82 : ByteArray), ∃ w83 : World, Sem.run Cz.P (convert 22 9 (.slice a77 n78 c79)) w80 = .ok (.string s82) w83 ∧ ((w83.cell? (q73.add 1) = w80.cell? (q73.add 1) ∧ True) ∧ True) ∧ (∃ (s84 : ByteArray), ∃ w85 : World, Sem.run Cz.P (convert 22 9 (.slice a74 n75 c76)) w83 = .ok (.string s84) w85 ∧ J71 [(.bool (!(s82.toList == s84.toList)))] w85)) ∧ (∃ (s86 : ByteArray), ∃ w87 : World, Sem.run Cz.P (convert 22 9 (.slice a74 n75 c76)) w80 = .ok (.string s86) w87 ∧ (∃ (s88 : ByteArray), ∃ w89 : World, Sem.run Cz.P (convert 22 9 (.slice a77 n78 c79)) w87 = .ok (.string s88) w89 ∧ J71 [(.bool (!(s88.toList == s86.toList)))] w89))) (fun _ _ => False))) ∧ (∃ (s90 : ByteArray), ∃ w91 : World, Sem.run Cz.P (convert 22 9 (.slice a74 n75 c76)) w72 = .ok (.string s90) w91 ∧ (True) ∧ (Calls Cz.P 19 #[(.pointer p12)] w91 (CP (fun r96 w95 => ∃ (a92 : Option Addr) (n93 : Nat) (c94 : Nat), r96 = (.slice a92 n93 c94) ∧ (∃ (s97 : ByteArray), ∃ w98 : World, Sem.run Cz.P (convert 22 9 (.slice a92 n93 c94)) w95 = .ok (.string s97) w98 ∧ J71 [(.bool (!(s97.toList == s90.toList)))] w98)) (fun _ _ => False)))))) (w69.drew)) ∧ ∀ (b99 : Bool) (w100 : World), J71 [(.bool b99)] w100 → ifB b99 (Rt (.bool false) w100) (J44 [(.pointer p61), (.pointer p62), (.int .i64 (IntKind.i64.wrap (x48 + 1)))] w100 ∧ m45 [(.pointer p61), (.pointer p62), (.int .i64 (IntKind.i64.wrap (x48 + 1)))] w100 < m45 [(.pointer p46), (.pointer p47), (.int .i64 x48)] w49)) E))
def B4_l1 (Rt : Value → World → Prop) (E : List PanicEntry → World → Prop) (a2 : Option Addr) (n3 : Nat) (p12 : Option Addr) (p16 : Option Addr) (J44 : List Value → World → Prop) (m45 : List Value → World → Nat) (p46 : Option Addr) (p47 : Option Addr) (x48 : Int) (w49 : World) : Prop :=
  ifB (decide (x48 < (n3 : Int))) (need (decide (0 ≤ x48) && decide (x48 < (n3 : Int))) (nn a2 fun q50 => ∃ (x51 : Int) (x52 : Int) (x53 : Int) (x54 : Int) (s55 : ByteArray) (x56 : Int) (x57 : Int) (x58 : Int) (x59 : Int) (x60 : Int), (w49.cell? (q50.add ((x48).toNat * 10)) = some (.int .i64 x51) ∧ w49.cell? ((q50.add ((x48).toNat * 10)).add 1) = some (.int .i64 x52) ∧ w49.cell? ((q50.add ((x48).toNat * 10)).add 2) = some (.int .u32 x53) ∧ w49.cell? ((q50.add ((x48).toNat * 10)).add 3) = some (.int .i64 x54) ∧ w49.cell? ((q50.add ((x48).toNat * 10)).add 4) = some (.string s55) ∧ w49.cell? ((q50.add ((x48).toNat * 10)).add 5) = some (.int .i64 x56) ∧ w49.cell? ((q50.add ((x48).toNat * 10)).add 6) = some (.int .i64 x57) ∧ w49.cell? ((q50.add ((x48).toNat * 10)).add 7) = some (.int .i64 x58) ∧ w49.cell? ((q50.add ((x48).toNat * 10)).add 8) = some (.int .i64 x59) ∧ w49.cell? ((q50.add ((x48).toNat * 10)).add 9) = some (.int .i64 x60) ∧ True) ∧ Calls Cz.P 18 #[(.pointer p12), (.pointer p16), (.pointer p46), (.pointer p47), (.agg #[(.int .i64 x51), (.int .i64 x52), (.int .u32 x53), (.int .i64 x54), (.string s55), (.int .i64 x56), (.int .i64 x57), (.int .i64 x58), (.int .i64 x59), (.int .i64 x60)])] w49 (CP (fun r65 w64 => ∃ (p61 : Option Addr) (p62 : Option Addr) (b63 : Bool), r65 = (.tuple #[(.pointer p61), (.pointer p62), (.bool b63)]) ∧ ifB (!b63) (B4_j4 Rt E p12 p16 J44 m45 p46 p47 x48 w49 p61 p62 b63 true w64) (ifB (p61.isNone) (B4_j4 Rt E p12 p16 J44 m45 p46 p47 x48 w49 p61 p62 b63 true w64) (B4_j4 Rt E p12 p16 J44 m45 p46 p47 x48 w49 p61 p62 b63 p62.isNone w64))) E))) (Rt (.bool true) w49)
def B4_j3 (Rt : Value → World → Prop) (E : List PanicEntry → World → Prop) (a2 : Option Addr) (n3 : Nat) (p12 : Option Addr) (p16 : Option Addr) (p29 : Option Addr) (p38 : Option Addr) (b42 : Bool) (w43 : World) : Prop :=
  ifB b42 (Rt (.bool false) w43) (∃ (J44 : List Value → World → Prop) (m45 : List Value → World → Nat), J44 [(.pointer p29), (.pointer p38), (.int .i64 0)] w43 ∧ ∀ (p46 : Option Addr) (p47 : Option Addr) (x48 : Int) (w49 : World), J44 [(.pointer p46), (.pointer p47), (.int .i64 x48)] w49 → B4_l1 Rt E a2 n3 p12 p16 J44 m45 p46 p47 x48 w49)
def B4_j1 (Rt : Value → World → Prop) (E : List PanicEntry → World → Prop) (a2 : Option Addr) (n3 : Nat) (b6 : Bool) (b9 : Bool) (p12 : Option Addr) (x13 : Int) (p16 : Option Addr) (x17 : Int) (b20 : Bool) (w21 : World) : Prop :=
  ifB b20 (ifB b6 (ifB b9 (B4_j2 Rt true w21) (B4_j2 Rt (x13 == x17) w21)) (B4_j2 Rt false w21)) (Calls Cz.P 17 #[] w21 (CP (fun r28 w27 => ∃ (a24 : Option Addr) (n25 : Nat) (c26 : Nat), r28 = (.slice a24 n25 c26) ∧ Calls Cz.P 13 #[(.pointer p12), (.slice a24 n25 c26)] w27 (CP (fun r32 w31 => ∃ (p29 : Option Addr) (x30 : Int), r32 = (.tuple #[(.pointer p29), (.int .i64 x30)]) ∧ Calls Cz.P 17 #[] w31 (CP (fun r37 w36 => ∃ (a33 : Option Addr) (n34 : Nat) (c35 : Nat), r37 = (.slice a33 n34 c35) ∧ Calls Cz.P 14 #[(.pointer p16), (.slice a33 n34 c35)] w36 (CP (fun r41 w40 => ∃ (p38 : Option Addr) (x39 : Int), r41 = (.tuple #[(.pointer p38), (.int .i64 x39)]) ∧ ifB (x30 != x39) (B4_j3 Rt E a2 n3 p12 p16 p29 p38 true w40) (ifB (p29.isNone) (B4_j3 Rt E a2 n3 p12 p16 p29 p38 true w40) (B4_j3 Rt E a2 n3 p12 p16 p29 p38 p38.isNone w40))) E)) E)) E)) E))
def B4 (x1 : Int) (a2 : Option Addr) (n3 : Nat) (c4 : Nat) (w5 : World) (Rt : Value → World → Prop) (E : List PanicEntry → World → Prop) : Prop :=
  Calls Cz.P 8 #[] w5 (CP (fun r8 w7 => ∃ (b6 : Bool), r8 = (.bool b6) ∧ Calls Cz.P 16 #[(.slice a2 n3 c4)] w7 (CP (fun r11 w10 => ∃ (b9 : Bool), r11 = (.bool b9) ∧ Calls Cz.P 9 #[(.int .i64 x1)] w10 (CP (fun r15 w14 => ∃ (p12 : Option Addr) (x13 : Int), r15 = (.tuple #[(.pointer p12), (.int .i64 x13)]) ∧ Calls Cz.P 10 #[(.int .i64 x1)] w14 (CP (fun r19 w18 => ∃ (p16 : Option Addr) (x17 : Int), r19 = (.tuple #[(.pointer p16), (.int .i64 x17)]) ∧ ifB (!b6) (B4_j1 Rt E a2 n3 b6 b9 p12 x13 p16 x17 true w18) (ifB (x13 != 0) (B4_j1 Rt E a2 n3 b6 b9 p12 x13 p16 x17 true w18) (ifB (x17 != 0) (B4_j1 Rt E a2 n3 b6 b9 p12 x13 p16 x17 true w18) (B4_j1 Rt E a2 n3 b6 b9 p12 x13 p16 x17 b9 w18)))) E)) E)) E)) E)
def A4 : Ann := fun n => match n with | 0 => [(11, .one .ptr), (13, .one .ptr), (15, .one (.int .i64))] | 1000020 => [(0, .one .any)] | 2000020 => [(125, .one .bool)] | _ => []
theorem B4_eq (x1 : Int) (a2 : Option Addr) (n3 : Nat) (c4 : Nat) (w5 : World) (Rt : Value → World → Prop) (E : List PanicEntry → World → Prop) : vFn Cz A4 Tryz.f4.results.toList (bodyOf Tryz.f4) (startFr Tryz.f4.ntmps [(.int .i64 x1), (.slice a2 n3 c4)]) w5 (CP Rt E) = B4 x1 a2 n3 c4 w5 Rt E := by kernel_rfl
theorem C4 {x1 : Int} {a2 : Option Addr} {n3 : Nat} {c4 : Nat} {w5 : World} {Rt : Value → World → Prop} {E : List PanicEntry → World → Prop} (h : B4 x1 a2 n3 c4 w5 Rt E) : Calls Cz.P 4 #[(.int .i64 x1), (.slice a2 n3 c4)] w5 (CP Rt E) := calls_of_B (C := Cz) Cz.ok Tryz.func4 (by kernel_rfl) (B4_eq x1 a2 n3 c4 w5 Rt E) h


end Go.Lf
end

section
set_option linter.unusedVariables false
set_option maxRecDepth 100000
set_option maxHeartbeats 4000000
namespace Go.Lf
open Go Go.Proofs
/-! ### lessor/lessorlaw13.StoreLasts: function 5 -/
def B5_j4 (J56 : List Value → World → Prop) (m57 : List Value → World → Nat) (a58 : Option Addr) (n59 : Nat) (c60 : Nat) (x61 : Int) (w62 : World) (a111 : Option Addr) (n112 : Nat) (c113 : Nat) (w114 : World) : Prop :=
  J56 [(.slice a111 n112 c113), (.int .i64 (IntKind.i64.wrap (x61 + 1)))] w114 ∧ m57 [(.slice a111 n112 c113), (.int .i64 (IntKind.i64.wrap (x61 + 1)))] w114 < m57 [(.slice a58 n59 c60), (.int .i64 x61)] w62
def B5_j3 (p27 : Option Addr) (J56 : List Value → World → Prop) (m57 : List Value → World → Nat) (a58 : Option Addr) (n59 : Nat) (c60 : Nat) (x61 : Int) (w62 : World) (a87 : Option Addr) (n88 : Nat) (c89 : Nat) (w90 : World) : Prop :=
  ∃ (a91 : Option Addr) (n92 : Nat) (c93 : Nat), ∃ w94 : World, Sem.run Cz.P (Instr.buildSlice 22 0 #[]) w90 = .ok (.slice a91 n92 c93) w94 ∧ nn p27 fun q95 => ∃ (a96 : Option Addr) (n97 : Nat) (c98 : Nat), w94.cell? (q95.add 1) = some (.slice a96 n97 c98) ∧ ∃ (a99 : Option Addr) (n100 : Nat) (c101 : Nat), ∃ w102 : World, Sem.run Cz.P (Builtin.append_ #[22, 22] 22 #[(.slice a91 n92 c93), (.slice a96 n97 c98)]) w94 = .ok (.slice a99 n100 c101) w102 ∧ ∃ (a103 : Option Addr) (n104 : Nat) (c105 : Nat), ∃ w106 : World, Sem.run Cz.P (Instr.buildSlice 56 1 #[(0, (.slice a99 n100 c101))]) w102 = .ok (.slice a103 n104 c105) w106 ∧ ∃ (a107 : Option Addr) (n108 : Nat) (c109 : Nat), ∃ w110 : World, Sem.run Cz.P (Builtin.append_ #[56, 56] 56 #[(.slice a87 n88 c89), (.slice a103 n104 c105)]) w106 = .ok (.slice a107 n108 c109) w110 ∧ B5_j4 J56 m57 a58 n59 c60 x61 w62 a107 n108 c109 w110
def B5_j2 (E : List PanicEntry → World → Prop) (a1 : Option Addr) (n2 : Nat) (p12 : Option Addr) (p21 : Option Addr) (p27 : Option Addr) (p36 : Option Addr) (J56 : List Value → World → Prop) (m57 : List Value → World → Nat) (a58 : Option Addr) (n59 : Nat) (c60 : Nat) (x61 : Int) (w62 : World) (b67 : Bool) (w68 : World) : Prop :=
  ifB b67 (B5_j4 J56 m57 a58 n59 c60 x61 w62 a58 n59 c60 w68) (need (decide (0 ≤ x61) && decide (x61 < (n2 : Int))) (nn a1 fun q69 => ∃ (x70 : Int) (x71 : Int) (x72 : Int) (x73 : Int) (s74 : ByteArray) (x75 : Int) (x76 : Int) (x77 : Int) (x78 : Int) (x79 : Int), (w68.cell? (q69.add ((x61).toNat * 10)) = some (.int .i64 x70) ∧ w68.cell? ((q69.add ((x61).toNat * 10)).add 1) = some (.int .i64 x71) ∧ w68.cell? ((q69.add ((x61).toNat * 10)).add 2) = some (.int .u32 x72) ∧ w68.cell? ((q69.add ((x61).toNat * 10)).add 3) = some (.int .i64 x73) ∧ w68.cell? ((q69.add ((x61).toNat * 10)).add 4) = some (.string s74) ∧ w68.cell? ((q69.add ((x61).toNat * 10)).add 5) = some (.int .i64 x75) ∧ w68.cell? ((q69.add ((x61).toNat * 10)).add 6) = some (.int .i64 x76) ∧ w68.cell? ((q69.add ((x61).toNat * 10)).add 7) = some (.int .i64 x77) ∧ w68.cell? ((q69.add ((x61).toNat * 10)).add 8) = some (.int .i64 x78) ∧ w68.cell? ((q69.add ((x61).toNat * 10)).add 9) = some (.int .i64 x79) ∧ True) ∧ Calls Cz.P 18 #[(.pointer p12), (.pointer p27), (.pointer p21), (.pointer p36), (.agg #[(.int .i64 x70), (.int .i64 x71), (.int .u32 x72), (.int .i64 x73), (.string s74), (.int .i64 x75), (.int .i64 x76), (.int .i64 x77), (.int .i64 x78), (.int .i64 x79)])] w68 (CP (fun r84 w83 => ∃ (p80 : Option Addr) (p81 : Option Addr) (b82 : Bool), r84 = (.tuple #[(.pointer p80), (.pointer p81), (.bool b82)]) ∧ need (decide (0 ≤ x61) && decide (x61 < (n2 : Int))) (nn a1 fun q85 => ∃ (x86 : Int), w83.cell? (q85.add ((x61).toNat * 10)) = some (.int .i64 x86) ∧ ifB (decide (x86 ≥ 3)) (B5_j3 p27 J56 m57 a58 n59 c60 x61 w62 none 0 0 w83) (B5_j3 p27 J56 m57 a58 n59 c60 x61 w62 a58 n59 c60 w83))) E)))
def B5_l2 (Rt : Value → World → Prop) (E : List PanicEntry → World → Prop) (a58 : Option Addr) (n59 : Nat) (p122 : Option Addr) (J128 : List Value → World → Prop) (m129 : List Value → World → Nat) (x130 : Int) (w131 : World) : Prop :=
  ifB (decide (x130 < (n59 : Int))) (Calls Cz.P 10 #[(.int .i64 100000)] w131 (CP (fun r135 w134 => ∃ (p132 : Option Addr) (x133 : Int), r135 = (.tuple #[(.pointer p132), (.int .i64 x133)]) ∧ need (decide (0 ≤ x130) && decide (x130 < (n59 : Int))) (nn a58 fun q136 => ∃ (a137 : Option Addr) (n138 : Nat) (c139 : Nat), w134.cell? (q136.add ((x130).toNat * 1)) = some (.slice a137 n138 c139) ∧ Calls Cz.P 12 #[(.pointer p132), (.slice a137 n138 c139)] w134 (CP (fun r142 w141 => ∃ (x140 : Int), r142 = (.int .i64 x140) ∧ Calls Cz.P 17 #[] w141 (CP (fun r147 w146 => ∃ (a143 : Option Addr) (n144 : Nat) (c145 : Nat), r147 = (.slice a143 n144 c145) ∧ Calls Cz.P 14 #[(.pointer p132), (.slice a143 n144 c145)] w146 (CP (fun r151 w150 => ∃ (p148 : Option Addr) (x149 : Int), r151 = (.tuple #[(.pointer p148), (.int .i64 x149)]) ∧ Calls Cz.P 15 #[(.pointer p122), (.pointer p148)] w150 (CP (fun r154 w153 => ∃ (b152 : Bool), r154 = (.bool b152) ∧ ifB b152 (Rt (.bool true) w153) (J128 [(.int .i64 (IntKind.i64.wrap (x130 + 1)))] w153 ∧ m129 [(.int .i64 (IntKind.i64.wrap (x130 + 1)))] w153 < m129 [(.int .i64 x130)] w131)) E)) E)) E)) E))) E)) (Rt (.bool false) w131)
def B5_j5 (Rt : Value → World → Prop) (E : List PanicEntry → World → Prop) (a58 : Option Addr) (n59 : Nat) (p122 : Option Addr) (b126 : Bool) (w127 : World) : Prop :=
  ifB b126 (Rt (.bool false) w127) (∃ (J128 : List Value → World → Prop) (m129 : List Value → World → Nat), J128 [(.int .i64 0)] w127 ∧ ∀ (x130 : Int) (w131 : World), J128 [(.int .i64 x130)] w131 → B5_l2 Rt E a58 n59 p122 J128 m129 x130 w131)
def B5_l1 (Rt : Value → World → Prop) (E : List PanicEntry → World → Prop) (a1 : Option Addr) (n2 : Nat) (x4 : Int) (p12 : Option Addr) (p21 : Option Addr) (p27 : Option Addr) (p36 : Option Addr) (J56 : List Value → World → Prop) (m57 : List Value → World → Nat) (a58 : Option Addr) (n59 : Nat) (c60 : Nat) (x61 : Int) (w62 : World) : Prop :=
  ifB (decide (x61 < (n2 : Int))) (need (decide (0 ≤ x61) && decide (x61 < (n2 : Int))) (nn a1 fun q63 => ∃ (x64 : Int), w62.cell? (q63.add ((x61).toNat * 10)) = some (.int .i64 x64) ∧ ifB (decide (x64 < 0)) (B5_j2 E a1 n2 p12 p21 p27 p36 J56 m57 a58 n59 c60 x61 w62 true w62) (need (decide (0 ≤ x61) && decide (x61 < (n2 : Int))) (nn a1 fun q65 => ∃ (x66 : Int), w62.cell? (q65.add ((x61).toNat * 10)) = some (.int .i64 x66) ∧ B5_j2 E a1 n2 p12 p21 p27 p36 J56 m57 a58 n59 c60 x61 w62 (decide (x66 > 4)) w62)))) (Calls Cz.P 20 #[(.pointer p12), (.int .i64 x4)] w62 (CP (fun r116 w115 => r116 = (.tuple #[]) ∧ Calls Cz.P 17 #[] w115 (CP (fun r121 w120 => ∃ (a117 : Option Addr) (n118 : Nat) (c119 : Nat), r121 = (.slice a117 n118 c119) ∧ Calls Cz.P 13 #[(.pointer p12), (.slice a117 n118 c119)] w120 (CP (fun r125 w124 => ∃ (p122 : Option Addr) (x123 : Int), r125 = (.tuple #[(.pointer p122), (.int .i64 x123)]) ∧ ifB (x123 != 0) (B5_j5 Rt E a58 n59 p122 true w124) (B5_j5 Rt E a58 n59 p122 p122.isNone w124)) E)) E)) E))
def B5_j1 (Rt : Value → World → Prop) (E : List PanicEntry → World → Prop) (a1 : Option Addr) (n2 : Nat) (x4 : Int) (b6 : Bool) (p12 : Option Addr) (p21 : Option Addr) (b25 : Bool) (w26 : World) : Prop :=
  ifB b25 (Rt (.bool b6) w26) (Calls Cz.P 10 #[(.int .i64 100000)] w26 (CP (fun r30 w29 => ∃ (p27 : Option Addr) (x28 : Int), r30 = (.tuple #[(.pointer p27), (.int .i64 x28)]) ∧ Calls Cz.P 17 #[] w29 (CP (fun r35 w34 => ∃ (a31 : Option Addr) (n32 : Nat) (c33 : Nat), r35 = (.slice a31 n32 c33) ∧ Calls Cz.P 14 #[(.pointer p27), (.slice a31 n32 c33)] w34 (CP (fun r39 w38 => ∃ (p36 : Option Addr) (x37 : Int), r39 = (.tuple #[(.pointer p36), (.int .i64 x37)]) ∧ ∃ (a40 : Option Addr) (n41 : Nat) (c42 : Nat), ∃ w43 : World, Sem.run Cz.P (Instr.buildSlice 22 0 #[]) w38 = .ok (.slice a40 n41 c42) w43 ∧ nn p27 fun q44 => ∃ (a45 : Option Addr) (n46 : Nat) (c47 : Nat), w43.cell? (q44.add 1) = some (.slice a45 n46 c47) ∧ ∃ (a48 : Option Addr) (n49 : Nat) (c50 : Nat), ∃ w51 : World, Sem.run Cz.P (Builtin.append_ #[22, 22] 22 #[(.slice a40 n41 c42), (.slice a45 n46 c47)]) w43 = .ok (.slice a48 n49 c50) w51 ∧ ∃ (a52 : Option Addr) (n53 : Nat) (c54 : Nat), ∃ w55 : World, Sem.run Cz.P (Instr.buildSlice 56 1 #[(0, (.slice a48 n49 c50))]) w51 = .ok (.slice a52 n53 c54) w55 ∧ ∃ (J56 : List Value → World → Prop) (m57 : List Value → World → Nat), J56 [(.slice a52 n53 c54), (.int .i64 0)] w55 ∧ ∀ (a58 : Option Addr) (n59 : Nat) (c60 : Nat) (x61 : Int) (w62 : World), J56 [(.slice a58 n59 c60), (.int .i64 x61)] w62 → B5_l1 Rt E a1 n2 x4 p12 p21 p27 p36 J56 m57 a58 n59 c60 x61 w62) E)) E)) E))
def B5 (a1 : Option Addr) (n2 : Nat) (c3 : Nat) (x4 : Int) (w5 : World) (Rt : Value → World → Prop) (E : List PanicEntry → World → Prop) : Prop :=
  Calls Cz.P 8 #[] w5 (CP (fun r8 w7 => ∃ (b6 : Bool), r8 = (.bool b6) ∧ Calls Cz.P 16 #[(.slice a1 n2 c3)] w7 (CP (fun r11 w10 => ∃ (b9 : Bool), r11 = (.bool b9) ∧ Calls Cz.P 9 #[(.int .i64 100000)] w10 (CP (fun r15 w14 => ∃ (p12 : Option Addr) (x13 : Int), r15 = (.tuple #[(.pointer p12), (.int .i64 x13)]) ∧ Calls Cz.P 17 #[] w14 (CP (fun r20 w19 => ∃ (a16 : Option Addr) (n17 : Nat) (c18 : Nat), r20 = (.slice a16 n17 c18) ∧ Calls Cz.P 13 #[(.pointer p12), (.slice a16 n17 c18)] w19 (CP (fun r24 w23 => ∃ (p21 : Option Addr) (x22 : Int), r24 = (.tuple #[(.pointer p21), (.int .i64 x22)]) ∧ ifB (!b6) (B5_j1 Rt E a1 n2 x4 b6 p12 p21 true w23) (ifB (x13 != 0) (B5_j1 Rt E a1 n2 x4 b6 p12 p21 true w23) (ifB (x22 != 0) (B5_j1 Rt E a1 n2 x4 b6 p12 p21 true w23) (ifB (p21.isNone) (B5_j1 Rt E a1 n2 x4 b6 p12 p21 true w23) (B5_j1 Rt E a1 n2 x4 b6 p12 p21 b9 w23))))) E)) E)) E)) E)) E)
def A5 : Ann := fun n => match n with | 0 => [(15, .one .sl), (16, .one (.int .i64))] | 1 => [(17, .one (.int .i64))] | _ => []
theorem B5_eq (a1 : Option Addr) (n2 : Nat) (c3 : Nat) (x4 : Int) (w5 : World) (Rt : Value → World → Prop) (E : List PanicEntry → World → Prop) : vFn Cz A5 Tryz.f5.results.toList (bodyOf Tryz.f5) (startFr Tryz.f5.ntmps [(.slice a1 n2 c3), (.int .i64 x4)]) w5 (CP Rt E) = B5 a1 n2 c3 x4 w5 Rt E := by kernel_rfl
theorem C5 {a1 : Option Addr} {n2 : Nat} {c3 : Nat} {x4 : Int} {w5 : World} {Rt : Value → World → Prop} {E : List PanicEntry → World → Prop} (h : B5 a1 n2 c3 x4 w5 Rt E) : Calls Cz.P 5 #[(.slice a1 n2 c3), (.int .i64 x4)] w5 (CP Rt E) := calls_of_B (C := Cz) Cz.ok Tryz.func5 (by kernel_rfl) (B5_eq a1 n2 c3 x4 w5 Rt E) h


end Go.Lf
end

section
set_option linter.unusedVariables false
set_option maxRecDepth 100000
set_option maxHeartbeats 4000000
namespace Go.Lf
open Go Go.Proofs
/-! ### lessor/lessorlaw13.StoreCompacts: function 6 -/
def B6_j3 (J39 : List Value → World → Prop) (m40 : List Value → World → Nat) (x41 : Int) (w42 : World) (w65 : World) : Prop :=
  J39 [(.int .i64 (IntKind.i64.wrap (x41 + 1)))] w65 ∧ m40 [(.int .i64 (IntKind.i64.wrap (x41 + 1)))] w65 < m40 [(.int .i64 x41)] w42
def B6_j2 (E : List PanicEntry → World → Prop) (a1 : Option Addr) (n2 : Nat) (p11 : Option Addr) (p20 : Option Addr) (p26 : Option Addr) (p35 : Option Addr) (J39 : List Value → World → Prop) (m40 : List Value → World → Nat) (x41 : Int) (w42 : World) (b47 : Bool) (w48 : World) : Prop :=
  ifB b47 (need (decide (0 ≤ x41) && decide (x41 < (n2 : Int))) (nn a1 fun q49 => ∃ (x50 : Int) (x51 : Int) (x52 : Int) (x53 : Int) (s54 : ByteArray) (x55 : Int) (x56 : Int) (x57 : Int) (x58 : Int) (x59 : Int), (w48.cell? (q49.add ((x41).toNat * 10)) = some (.int .i64 x50) ∧ w48.cell? ((q49.add ((x41).toNat * 10)).add 1) = some (.int .i64 x51) ∧ w48.cell? ((q49.add ((x41).toNat * 10)).add 2) = some (.int .u32 x52) ∧ w48.cell? ((q49.add ((x41).toNat * 10)).add 3) = some (.int .i64 x53) ∧ w48.cell? ((q49.add ((x41).toNat * 10)).add 4) = some (.string s54) ∧ w48.cell? ((q49.add ((x41).toNat * 10)).add 5) = some (.int .i64 x55) ∧ w48.cell? ((q49.add ((x41).toNat * 10)).add 6) = some (.int .i64 x56) ∧ w48.cell? ((q49.add ((x41).toNat * 10)).add 7) = some (.int .i64 x57) ∧ w48.cell? ((q49.add ((x41).toNat * 10)).add 8) = some (.int .i64 x58) ∧ w48.cell? ((q49.add ((x41).toNat * 10)).add 9) = some (.int .i64 x59) ∧ True) ∧ Calls Cz.P 18 #[(.pointer p11), (.pointer p26), (.pointer p20), (.pointer p35), (.agg #[(.int .i64 x50), (.int .i64 x51), (.int .u32 x52), (.int .i64 x53), (.string s54), (.int .i64 x55), (.int .i64 x56), (.int .i64 x57), (.int .i64 x58), (.int .i64 x59)])] w48 (CP (fun r64 w63 => ∃ (p60 : Option Addr) (p61 : Option Addr) (b62 : Bool), r64 = (.tuple #[(.pointer p60), (.pointer p61), (.bool b62)]) ∧ B6_j3 J39 m40 x41 w42 w63) E))) (B6_j3 J39 m40 x41 w42 w48)
def B6_j5 (Rt : Value → World → Prop) (b127 : Bool) (w128 : World) : Prop :=
  Rt (.bool b127) w128
def B6_j4 (Rt : Value → World → Prop) (E : List PanicEntry → World → Prop) (a69 : Option Addr) (n70 : Nat) (c71 : Nat) (x74 : Int) (x77 : Int) (p101 : Option Addr) (b105 : Bool) (w106 : World) : Prop :=
  ifB b105 (Rt (.bool false) w106) (Calls Cz.P 21 #[(.pointer p101)] w106 (CP (fun r109 w108 => ∃ (p107 : Option Addr), r109 = (.pointer p107) ∧ Calls Cz.P 22 #[(.pointer p107)] w108 (CP (fun r114 w113 => ∃ (a110 : Option Addr) (n111 : Nat) (c112 : Nat), r114 = (.slice a110 n111 c112) ∧ Calls Cz.P 26 #[(.slice a110 n111 c112), (.slice a69 n70 c71)] w113 (CP (fun r117 w116 => ∃ (b115 : Bool), r117 = (.bool b115) ∧ ifB b115 (Calls Cz.P 23 #[(.pointer p101)] w116 (CP (fun r120 w119 => ∃ (x118 : Int), r120 = (.int .i64 x118) ∧ ifB (x118 == x74) (Calls Cz.P 24 #[(.pointer p101)] w119 (CP (fun r123 w122 => ∃ (x121 : Int), r123 = (.int .i64 x121) ∧ ifB (x121 == x77) (Calls Cz.P 27 #[(.pointer p101)] w122 (CP (fun r126 w125 => ∃ (x124 : Int), r126 = (.int .i64 x124) ∧ B6_j5 Rt (decide (x124 ≤ 8)) w125) E)) (B6_j5 Rt false w122)) E)) (B6_j5 Rt false w119)) E)) (B6_j5 Rt false w116)) E)) E)) E))
def B6_l1 (Rt : Value → World → Prop) (E : List PanicEntry → World → Prop) (a1 : Option Addr) (n2 : Nat) (p11 : Option Addr) (p20 : Option Addr) (p26 : Option Addr) (p35 : Option Addr) (J39 : List Value → World → Prop) (m40 : List Value → World → Nat) (x41 : Int) (w42 : World) : Prop :=
  ifB (decide (x41 < (n2 : Int))) (need (decide (0 ≤ x41) && decide (x41 < (n2 : Int))) (nn a1 fun q43 => ∃ (x44 : Int), w42.cell? (q43.add ((x41).toNat * 10)) = some (.int .i64 x44) ∧ ifB (decide (x44 ≥ 0)) (need (decide (0 ≤ x41) && decide (x41 < (n2 : Int))) (nn a1 fun q45 => ∃ (x46 : Int), w42.cell? (q45.add ((x41).toNat * 10)) = some (.int .i64 x46) ∧ B6_j2 E a1 n2 p11 p20 p26 p35 J39 m40 x41 w42 (decide (x46 < 5)) w42)) (B6_j2 E a1 n2 p11 p20 p26 p35 J39 m40 x41 w42 false w42))) (Calls Cz.P 21 #[(.pointer p20)] w42 (CP (fun r68 w67 => ∃ (p66 : Option Addr), r68 = (.pointer p66) ∧ Calls Cz.P 22 #[(.pointer p66)] w67 (CP (fun r73 w72 => ∃ (a69 : Option Addr) (n70 : Nat) (c71 : Nat), r73 = (.slice a69 n70 c71) ∧ Calls Cz.P 23 #[(.pointer p20)] w72 (CP (fun r76 w75 => ∃ (x74 : Int), r76 = (.int .i64 x74) ∧ Calls Cz.P 24 #[(.pointer p20)] w75 (CP (fun r79 w78 => ∃ (x77 : Int), r79 = (.int .i64 x77) ∧ Calls Cz.P 25 #[(.pointer p20)] w78 (CP (fun r82 w81 => ∃ (x80 : Int), r82 = (.int .i64 x80) ∧ Calls Cz.P 21 #[(.pointer p20)] w81 (CP (fun r85 w84 => ∃ (p83 : Option Addr), r85 = (.pointer p83) ∧ Calls Cz.P 22 #[(.pointer p83)] w84 (CP (fun r90 w89 => ∃ (a86 : Option Addr) (n87 : Nat) (c88 : Nat), r90 = (.slice a86 n87 c88) ∧ Calls Cz.P 26 #[(.slice a86 n87 c88), (.slice a69 n70 c71)] w89 (CP (fun r93 w92 => ∃ (b91 : Bool), r93 = (.bool b91) ∧ Calls Cz.P 20 #[(.pointer p11), (.int .i64 0)] w92 (CP (fun r95 w94 => r95 = (.tuple #[]) ∧ Calls Cz.P 17 #[] w94 (CP (fun r100 w99 => ∃ (a96 : Option Addr) (n97 : Nat) (c98 : Nat), r100 = (.slice a96 n97 c98) ∧ Calls Cz.P 13 #[(.pointer p11), (.slice a96 n97 c98)] w99 (CP (fun r104 w103 => ∃ (p101 : Option Addr) (x102 : Int), r104 = (.tuple #[(.pointer p101), (.int .i64 x102)]) ∧ ifB (x80 != 0) (B6_j4 Rt E a69 n70 c71 x74 x77 p101 true w103) (ifB (x102 != 0) (B6_j4 Rt E a69 n70 c71 x74 x77 p101 true w103) (ifB (p101.isNone) (B6_j4 Rt E a69 n70 c71 x74 x77 p101 true w103) (B6_j4 Rt E a69 n70 c71 x74 x77 p101 (!b91) w103)))) E)) E)) E)) E)) E)) E)) E)) E)) E)) E)) E))
def B6_j1 (Rt : Value → World → Prop) (E : List PanicEntry → World → Prop) (a1 : Option Addr) (n2 : Nat) (b5 : Bool) (p11 : Option Addr) (p20 : Option Addr) (b24 : Bool) (w25 : World) : Prop :=
  ifB b24 (Rt (.bool b5) w25) (Calls Cz.P 10 #[(.int .i64 100000)] w25 (CP (fun r29 w28 => ∃ (p26 : Option Addr) (x27 : Int), r29 = (.tuple #[(.pointer p26), (.int .i64 x27)]) ∧ Calls Cz.P 17 #[] w28 (CP (fun r34 w33 => ∃ (a30 : Option Addr) (n31 : Nat) (c32 : Nat), r34 = (.slice a30 n31 c32) ∧ Calls Cz.P 14 #[(.pointer p26), (.slice a30 n31 c32)] w33 (CP (fun r38 w37 => ∃ (p35 : Option Addr) (x36 : Int), r38 = (.tuple #[(.pointer p35), (.int .i64 x36)]) ∧ ∃ (J39 : List Value → World → Prop) (m40 : List Value → World → Nat), J39 [(.int .i64 0)] w37 ∧ ∀ (x41 : Int) (w42 : World), J39 [(.int .i64 x41)] w42 → B6_l1 Rt E a1 n2 p11 p20 p26 p35 J39 m40 x41 w42) E)) E)) E))
def B6 (a1 : Option Addr) (n2 : Nat) (c3 : Nat) (w4 : World) (Rt : Value → World → Prop) (E : List PanicEntry → World → Prop) : Prop :=
  Calls Cz.P 8 #[] w4 (CP (fun r7 w6 => ∃ (b5 : Bool), r7 = (.bool b5) ∧ Calls Cz.P 16 #[(.slice a1 n2 c3)] w6 (CP (fun r10 w9 => ∃ (b8 : Bool), r10 = (.bool b8) ∧ Calls Cz.P 9 #[(.int .i64 100000)] w9 (CP (fun r14 w13 => ∃ (p11 : Option Addr) (x12 : Int), r14 = (.tuple #[(.pointer p11), (.int .i64 x12)]) ∧ Calls Cz.P 17 #[] w13 (CP (fun r19 w18 => ∃ (a15 : Option Addr) (n16 : Nat) (c17 : Nat), r19 = (.slice a15 n16 c17) ∧ Calls Cz.P 13 #[(.pointer p11), (.slice a15 n16 c17)] w18 (CP (fun r23 w22 => ∃ (p20 : Option Addr) (x21 : Int), r23 = (.tuple #[(.pointer p20), (.int .i64 x21)]) ∧ ifB (!b5) (B6_j1 Rt E a1 n2 b5 p11 p20 true w22) (ifB (x12 != 0) (B6_j1 Rt E a1 n2 b5 p11 p20 true w22) (ifB (x21 != 0) (B6_j1 Rt E a1 n2 b5 p11 p20 true w22) (ifB (p20.isNone) (B6_j1 Rt E a1 n2 b5 p11 p20 true w22) (B6_j1 Rt E a1 n2 b5 p11 p20 b8 w22))))) E)) E)) E)) E)) E)
def A6 : Ann := fun n => match n with | 0 => [(13, .one (.int .i64))] | _ => []
theorem B6_eq (a1 : Option Addr) (n2 : Nat) (c3 : Nat) (w4 : World) (Rt : Value → World → Prop) (E : List PanicEntry → World → Prop) : vFn Cz A6 Tryz.f6.results.toList (bodyOf Tryz.f6) (startFr Tryz.f6.ntmps [(.slice a1 n2 c3)]) w4 (CP Rt E) = B6 a1 n2 c3 w4 Rt E := by kernel_rfl
theorem C6 {a1 : Option Addr} {n2 : Nat} {c3 : Nat} {w4 : World} {Rt : Value → World → Prop} {E : List PanicEntry → World → Prop} (h : B6 a1 n2 c3 w4 Rt E) : Calls Cz.P 6 #[(.slice a1 n2 c3)] w4 (CP Rt E) := calls_of_B (C := Cz) Cz.ok Tryz.func6 (by kernel_rfl) (B6_eq a1 n2 c3 w4 Rt E) h


end Go.Lf
end

section
set_option linter.unusedVariables false
set_option maxRecDepth 100000
set_option maxHeartbeats 4000000
namespace Go.Lf
open Go Go.Proofs
/-! ### lessor/lessorlaw13.awake: function 8 -/
def B8_j3 (Rt : Value → World → Prop) (b76 : Bool) (w77 : World) : Prop :=
  Rt (.bool b76) w77
def B8_j2 (Rt : Value → World → Prop) (E : List PanicEntry → World → Prop) (p36 : Option Addr) (b43 : Bool) (w44 : World) : Prop :=
  ifB b43 (Rt (.bool false) w44) (Calls Cz.P 21 #[(.pointer p36)] w44 (CP (fun r47 w46 => ∃ (p45 : Option Addr), r47 = (.pointer p45) ∧ Calls Cz.P 28 #[(.pointer p45), (.int .u32 1)] w46 (CP (fun r58 w57 => ∃ (x48 : Int) (x49 : Int) (s50 : ByteArray) (x51 : Int) (x52 : Int) (x53 : Int) (x54 : Int) (x55 : Int) (x56 : Int), r58 = (.tuple #[(.agg #[(.int .u32 x48), (.int .i64 x49), (.string s50), (.int .i64 x51), (.int .i64 x52), (.int .i64 x53), (.int .i64 x54), (.int .i64 x55)]), (.int .i64 x56)]) ∧ nw w57 (.cells #[(.int .u32 0), (.int .i64 0), (.string ⟨#[]⟩), (.int .i64 0), (.int .i64 0), (.int .i64 0), (.int .i64 0), (.int .i64 0)] 49) fun k59 w60 => st w60 ⟨k59, 0, none⟩ (.int .u32 x48) fun w61 => st w61 ⟨k59, 1, none⟩ (.int .i64 x49) fun w62 => st w62 ⟨k59, 2, none⟩ (.string s50) fun w63 => st w63 ⟨k59, 3, none⟩ (.int .i64 x51) fun w64 => st w64 ⟨k59, 4, none⟩ (.int .i64 x52) fun w65 => st w65 ⟨k59, 5, none⟩ (.int .i64 x53) fun w66 => st w66 ⟨k59, 6, none⟩ (.int .i64 x54) fun w67 => st w67 ⟨k59, 7, none⟩ (.int .i64 x55) fun w68 => ifB (x56 == 0) (∃ (x69 : Int), w68.cell? ⟨k59, 1, none⟩ = some (.int .i64 x69) ∧ ifB (x69 == 1) (Calls Cz.P 24 #[(.pointer p36)] w68 (CP (fun r72 w71 => ∃ (x70 : Int), r72 = (.int .i64 x70) ∧ ifB (x70 == 3) (Calls Cz.P 23 #[(.pointer p36)] w71 (CP (fun r75 w74 => ∃ (x73 : Int), r75 = (.int .i64 x73) ∧ B8_j3 Rt (x73 == 0) w74) E)) (B8_j3 Rt false w71)) E)) (B8_j3 Rt false w68)) (B8_j3 Rt false w68)) E)) E))
def B8_j1 (Rt : Value → World → Prop) (E : List PanicEntry → World → Prop) (p2 : Option Addr) (p11 : Option Addr) (b15 : Bool) (w16 : World) : Prop :=
  ifB b15 (Rt (.bool false) w16) (Calls Cz.P 29 #[(.pointer p11), (.agg #[(.int .u32 1), (.int .i64 1), (.string ⟨#[]⟩), (.int .i64 0), (.int .i64 0), (.int .i64 0), (.int .i64 0), (.int .i64 0)])] w16 (CP (fun r19 w18 => ∃ (x17 : Int), r19 = (.int .i64 x17) ∧ Calls Cz.P 30 #[(.pointer p11), (.int .i64 3)] w18 (CP (fun r22 w21 => ∃ (x20 : Int), r22 = (.int .i64 x20) ∧ Calls Cz.P 31 #[(.pointer p11)] w21 (CP (fun r25 w24 => ∃ (x23 : Int), r25 = (.int .i64 x23) ∧ Calls Cz.P 32 #[(.pointer p11), (.int .i64 2)] w24 (CP (fun r28 w27 => ∃ (x26 : Int), r28 = (.int .i64 x26) ∧ Calls Cz.P 20 #[(.pointer p2), (.int .i64 0)] w27 (CP (fun r30 w29 => r30 = (.tuple #[]) ∧ Calls Cz.P 17 #[] w29 (CP (fun r35 w34 => ∃ (a31 : Option Addr) (n32 : Nat) (c33 : Nat), r35 = (.slice a31 n32 c33) ∧ Calls Cz.P 13 #[(.pointer p2), (.slice a31 n32 c33)] w34 (CP (fun r39 w38 => ∃ (p36 : Option Addr) (x37 : Int), r39 = (.tuple #[(.pointer p36), (.int .i64 x37)]) ∧ ifB (x37 != 0) (B8_j2 Rt E p36 true w38) (ifB (p36.isNone) (B8_j2 Rt E p36 true w38) (Calls Cz.P 21 #[(.pointer p36)] w38 (CP (fun r42 w41 => ∃ (p40 : Option Addr), r42 = (.pointer p40) ∧ B8_j2 Rt E p36 p40.isNone w41) E)))) E)) E)) E)) E)) E)) E)) E))
def B8 (w1 : World) (Rt : Value → World → Prop) (E : List PanicEntry → World → Prop) : Prop :=
  Calls Cz.P 9 #[(.int .i64 1000)] w1 (CP (fun r5 w4 => ∃ (p2 : Option Addr) (x3 : Int), r5 = (.tuple #[(.pointer p2), (.int .i64 x3)]) ∧ Calls Cz.P 17 #[] w4 (CP (fun r10 w9 => ∃ (a6 : Option Addr) (n7 : Nat) (c8 : Nat), r10 = (.slice a6 n7 c8) ∧ Calls Cz.P 13 #[(.pointer p2), (.slice a6 n7 c8)] w9 (CP (fun r14 w13 => ∃ (p11 : Option Addr) (x12 : Int), r14 = (.tuple #[(.pointer p11), (.int .i64 x12)]) ∧ ifB (x3 != 0) (B8_j1 Rt E p2 p11 true w13) (ifB (x12 != 0) (B8_j1 Rt E p2 p11 true w13) (B8_j1 Rt E p2 p11 p11.isNone w13))) E)) E)) E)
def A8 : Ann := fun _ => []
theorem B8_eq (w1 : World) (Rt : Value → World → Prop) (E : List PanicEntry → World → Prop) : vFn Cz A8 Tryz.f8.results.toList (bodyOf Tryz.f8) (startFr Tryz.f8.ntmps []) w1 (CP Rt E) = B8 w1 Rt E := by kernel_rfl
theorem C8 {w1 : World} {Rt : Value → World → Prop} {E : List PanicEntry → World → Prop} (h : B8 w1 Rt E) : Calls Cz.P 8 #[] w1 (CP Rt E) := calls_of_B (C := Cz) Cz.ok Tryz.func8 (by kernel_rfl) (B8_eq w1 Rt E) h


end Go.Lf
end

section
set_option linter.unusedVariables false
set_option maxRecDepth 100000
set_option maxHeartbeats 4000000
namespace Go.Lf
open Go Go.Proofs
/-! ### lessor/disk.New: function 9 -/
def B9_j1 (Rt : Value → World → Prop) (x1 : Int) (b3 : Bool) (w4 : World) : Prop :=
  ifB b3 (Rt (.tuple #[(.pointer none), (.int .i64 1)]) w4) (nw w4 (.cells #[(.int .i64 x1), (.slice none 0 0), (.int .i64 0), (.int .i64 (-1))] 72) fun k5 w6 => Rt (.tuple #[(.pointer (some ⟨k5, 0, none⟩)), (.int .i64 0)]) w6)
def B9 (x1 : Int) (w2 : World) (Rt : Value → World → Prop) (E : List PanicEntry → World → Prop) : Prop :=
  ifB (decide (x1 < 1)) (B9_j1 Rt x1 true w2) (B9_j1 Rt x1 (decide (x1 > 1048576)) w2)
def A9 : Ann := fun _ => []
theorem B9_eq (x1 : Int) (w2 : World) (Rt : Value → World → Prop) (E : List PanicEntry → World → Prop) : vFn Cz A9 Tryz.f9.results.toList (bodyOf Tryz.f9) (startFr Tryz.f9.ntmps [(.int .i64 x1)]) w2 (CP Rt E) = B9 x1 w2 Rt E := by kernel_rfl
theorem C9 {x1 : Int} {w2 : World} {Rt : Value → World → Prop} {E : List PanicEntry → World → Prop} (h : B9 x1 w2 Rt E) : Calls Cz.P 9 #[(.int .i64 x1)] w2 (CP Rt E) := calls_of_B (C := Cz) Cz.ok Tryz.func9 (by kernel_rfl) (B9_eq x1 w2 Rt E) h


end Go.Lf
end

section
set_option linter.unusedVariables false
set_option maxRecDepth 100000
set_option maxHeartbeats 4000000
namespace Go.Lf
open Go Go.Proofs
/-! ### lessor/lessorref08.New: function 10 -/
def B10_j1 (Rt : Value → World → Prop) (x1 : Int) (b3 : Bool) (w4 : World) : Prop :=
  ifB b3 (Rt (.tuple #[(.pointer none), (.int .i64 1)]) w4) (nw w4 (.cells #[(.int .i64 x1), (.slice none 0 0), (.int .i64 0), (.int .i64 (-1))] 54) fun k5 w6 => Rt (.tuple #[(.pointer (some ⟨k5, 0, none⟩)), (.int .i64 0)]) w6)
def B10 (x1 : Int) (w2 : World) (Rt : Value → World → Prop) (E : List PanicEntry → World → Prop) : Prop :=
  ifB (decide (x1 < 1)) (B10_j1 Rt x1 true w2) (B10_j1 Rt x1 (decide (x1 > 1048576)) w2)
def A10 : Ann := fun _ => []
theorem B10_eq (x1 : Int) (w2 : World) (Rt : Value → World → Prop) (E : List PanicEntry → World → Prop) : vFn Cz A10 Tryz.f10.results.toList (bodyOf Tryz.f10) (startFr Tryz.f10.ntmps [(.int .i64 x1)]) w2 (CP Rt E) = B10 x1 w2 Rt E := by kernel_rfl
theorem C10 {x1 : Int} {w2 : World} {Rt : Value → World → Prop} {E : List PanicEntry → World → Prop} (h : B10 x1 w2 Rt E) : Calls Cz.P 10 #[(.int .i64 x1)] w2 (CP Rt E) := calls_of_B (C := Cz) Cz.ok Tryz.func10 (by kernel_rfl) (B10_eq x1 w2 Rt E) h


end Go.Lf
end

section
set_option linter.unusedVariables false
set_option maxRecDepth 100000
set_option maxHeartbeats 4000000
namespace Go.Lf
open Go Go.Proofs
/-! ### (*lessor/disk.Disk).Append: function 11 -/
def B11 (p1 : Option Addr) (a2 : Option Addr) (n3 : Nat) (c4 : Nat) (w5 : World) (Rt : Value → World → Prop) (E : List PanicEntry → World → Prop) : Prop :=
  nw w5 (.cells #[(.pointer p1)] 25) fun k6 w7 => nw w7 (.cells #[(.slice a2 n3 c4)] 22) fun k8 w9 => (fun w10 : World => ∃ (p11 : Option Addr), w10.cell? ⟨k6, 0, none⟩ = some (.pointer p11) ∧ ∃ (p12 : Option Addr), w10.cell? ⟨k6, 0, none⟩ = some (.pointer p12) ∧ nn p12 fun q13 => ∃ (a14 : Option Addr) (n15 : Nat) (c16 : Nat), w10.cell? (q13.add 1) = some (.slice a14 n15 c16) ∧ ∃ (a17 : Option Addr) (n18 : Nat) (c19 : Nat), w10.cell? ⟨k8, 0, none⟩ = some (.slice a17 n18 c19) ∧ (Calls Cz.P 33 #[(.pointer p11), (.int .i64 (IntKind.i64.wrap ((n15 : Int) + (n18 : Int)))), (.func (.func 34) #[] #[(.pointer (some ⟨k6, 0, none⟩)), (.pointer (some ⟨k8, 0, none⟩))])] w10 (CP (fun r22 w21 => ∃ (x20 : Int), r22 = (.int .i64 x20) ∧ Rt (.int .i64 x20) w21) (fun _ _ => False)))) (w9.drew)
def A11 : Ann := fun _ => []
theorem B11_eq (p1 : Option Addr) (a2 : Option Addr) (n3 : Nat) (c4 : Nat) (w5 : World) (Rt : Value → World → Prop) (E : List PanicEntry → World → Prop) : vFn Cz A11 Tryz.f11.results.toList (bodyOf Tryz.f11) (startFr Tryz.f11.ntmps [(.pointer p1), (.slice a2 n3 c4)]) w5 (CP Rt E) = B11 p1 a2 n3 c4 w5 Rt E := by kernel_rfl
theorem C11 {p1 : Option Addr} {a2 : Option Addr} {n3 : Nat} {c4 : Nat} {w5 : World} {Rt : Value → World → Prop} {E : List PanicEntry → World → Prop} (h : B11 p1 a2 n3 c4 w5 Rt E) : Calls Cz.P 11 #[(.pointer p1), (.slice a2 n3 c4)] w5 (CP Rt E) := calls_of_B (C := Cz) Cz.ok Tryz.func11 (by kernel_rfl) (B11_eq p1 a2 n3 c4 w5 Rt E) h


end Go.Lf
end

section
set_option linter.unusedVariables false
set_option maxRecDepth 100000
set_option maxHeartbeats 4000000
namespace Go.Lf
open Go Go.Proofs
/-! ### (*lessor/lessorref08.Disk).Append: function 12 -/
def B12 (p1 : Option Addr) (a2 : Option Addr) (n3 : Nat) (c4 : Nat) (w5 : World) (Rt : Value → World → Prop) (E : List PanicEntry → World → Prop) : Prop :=
  Calls Cz.P 36 #[(.pointer p1)] w5 (CP (fun r8 w7 => ∃ (b6 : Bool), r8 = (.bool b6) ∧ ifB b6 (Rt (.int .i64 7) w7) ((fun w9 : World => nn p1 fun q10 => ∃ (a11 : Option Addr) (n12 : Nat) (c13 : Nat), w9.cell? (q10.add 1) = some (.slice a11 n12 c13) ∧ nn p1 fun q14 => ∃ (x15 : Int), w9.cell? q14 = some (.int .i64 x15) ∧ ifB (decide ((IntKind.i64.wrap ((n12 : Int) + (n3 : Int))) > x15)) (Rt (.int .i64 3) w9) (∃ (a16 : Option Addr) (n17 : Nat) (c18 : Nat), ∃ w19 : World, Sem.run Cz.P (Instr.buildSlice 22 0 #[]) w9 = .ok (.slice a16 n17 c18) w19 ∧ nn p1 fun q20 => ∃ (a21 : Option Addr) (n22 : Nat) (c23 : Nat), w19.cell? (q20.add 1) = some (.slice a21 n22 c23) ∧ ∃ (a24 : Option Addr) (n25 : Nat) (c26 : Nat), ∃ w27 : World, Sem.run Cz.P (Builtin.append_ #[22, 22] 22 #[(.slice a16 n17 c18), (.slice a21 n22 c23)]) w19 = .ok (.slice a24 n25 c26) w27 ∧ ∃ (a28 : Option Addr) (n29 : Nat) (c30 : Nat), ∃ w31 : World, Sem.run Cz.P (Builtin.append_ #[22, 22] 22 #[(.slice a24 n25 c26), (.slice a2 n3 c4)]) w27 = .ok (.slice a28 n29 c30) w31 ∧ nn p1 fun q32 => st w31 (q32.add 1) (.slice a28 n29 c30) fun w33 => Rt (.int .i64 0) w33)) (w7.drew))) E)
def A12 : Ann := fun _ => []
theorem B12_eq (p1 : Option Addr) (a2 : Option Addr) (n3 : Nat) (c4 : Nat) (w5 : World) (Rt : Value → World → Prop) (E : List PanicEntry → World → Prop) : vFn Cz A12 Tryz.f12.results.toList (bodyOf Tryz.f12) (startFr Tryz.f12.ntmps [(.pointer p1), (.slice a2 n3 c4)]) w5 (CP Rt E) = B12 p1 a2 n3 c4 w5 Rt E := by kernel_rfl
theorem C12 {p1 : Option Addr} {a2 : Option Addr} {n3 : Nat} {c4 : Nat} {w5 : World} {Rt : Value → World → Prop} {E : List PanicEntry → World → Prop} (h : B12 p1 a2 n3 c4 w5 Rt E) : Calls Cz.P 12 #[(.pointer p1), (.slice a2 n3 c4)] w5 (CP Rt E) := calls_of_B (C := Cz) Cz.ok Tryz.func12 (by kernel_rfl) (B12_eq p1 a2 n3 c4 w5 Rt E) h


end Go.Lf
end

section
set_option linter.unusedVariables false
set_option maxRecDepth 100000
set_option maxHeartbeats 4000000
namespace Go.Lf
open Go Go.Proofs
/-! ### lessor/store.Open: function 13 -/
def B13 (p1 : Option Addr) (a2 : Option Addr) (n3 : Nat) (c4 : Nat) (w5 : World) (Rt : Value → World → Prop) (E : List PanicEntry → World → Prop) : Prop :=
  Calls Cz.P 37 #[(.slice a2 n3 c4)] w5 (CP (fun r9 w8 => ∃ (p6 : Option Addr) (x7 : Int), r9 = (.tuple #[(.pointer p6), (.int .i64 x7)]) ∧ ifB (x7 != 0) (Rt (.tuple #[(.pointer none), (.int .i64 x7)]) w8) (Calls Cz.P 38 #[(.pointer p1)] w8 (CP (fun r13 w12 => ∃ (p10 : Option Addr) (x11 : Int), r13 = (.tuple #[(.pointer p10), (.int .i64 x11)]) ∧ ifB (x11 != 0) (Rt (.tuple #[(.pointer none), (.int .i64 x11)]) w12) (nw w12 (.cells #[(.pointer p10), (.pointer p6), (.int .i64 0), (.int .i64 0)] 81) fun k14 w15 => Calls Cz.P 40 #[(.pointer p10)] w15 (CP (fun r20 w19 => ∃ (a16 : Option Addr) (n17 : Nat) (c18 : Nat), r20 = (.slice a16 n17 c18) ∧ Calls Cz.P 39 #[(.slice a16 n17 c18), (.func (.func 41) #[(.pointer (some ⟨k14, 0, none⟩))] #[])] w19 (CP (fun r22 w21 => r22 = (.tuple #[]) ∧ Rt (.tuple #[(.pointer (some ⟨k14, 0, none⟩)), (.int .i64 0)]) w21) E)) E))) E))) E)
def A13 : Ann := fun _ => []
theorem B13_eq (p1 : Option Addr) (a2 : Option Addr) (n3 : Nat) (c4 : Nat) (w5 : World) (Rt : Value → World → Prop) (E : List PanicEntry → World → Prop) : vFn Cz A13 Tryz.f13.results.toList (bodyOf Tryz.f13) (startFr Tryz.f13.ntmps [(.pointer p1), (.slice a2 n3 c4)]) w5 (CP Rt E) = B13 p1 a2 n3 c4 w5 Rt E := by kernel_rfl
theorem C13 {p1 : Option Addr} {a2 : Option Addr} {n3 : Nat} {c4 : Nat} {w5 : World} {Rt : Value → World → Prop} {E : List PanicEntry → World → Prop} (h : B13 p1 a2 n3 c4 w5 Rt E) : Calls Cz.P 13 #[(.pointer p1), (.slice a2 n3 c4)] w5 (CP Rt E) := calls_of_B (C := Cz) Cz.ok Tryz.func13 (by kernel_rfl) (B13_eq p1 a2 n3 c4 w5 Rt E) h


end Go.Lf
end
