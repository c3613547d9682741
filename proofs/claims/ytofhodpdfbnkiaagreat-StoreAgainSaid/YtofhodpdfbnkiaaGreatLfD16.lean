/- Part 16 of the lemmas that a proof leans on; no claim is made here. By an AI agent. -/
import Derived.Test.YtofhodpdfbnkiaaGreatLfD07
section
set_option linter.unusedVariables false
set_option maxRecDepth 100000
set_option maxHeartbeats 4000000
namespace Go.Lf
open Go Go.Proofs
/-! ### lessor/frame.frames$1: function 127 -/
def B127_j1 (Rt : Value → World → Prop) (E : List PanicEntry → World → Prop) (v1 : Value) (q2 : Addr) (J4 : List Value → World → Prop) (m5 : List Value → World → Nat) (x6 : Int) (w7 : World) (x16 : Int) (x21 : Int) (b30 : Bool) (w31 : World) : Prop :=
  ifB b30 (Rt (.tuple #[]) w31) (∃ (a32 : Option Addr) (n33 : Nat) (c34 : Nat), w31.cell? q2 = some (.slice a32 n33 c34) ∧ need (decide ((0 : Int) ≤ (IntKind.i64.wrap ((IntKind.i64.wrap ((IntKind.i64.wrap ((IntKind.i64.wrap (x6 + 2)) + (bitop .or .i64 (IntKind.i64.wrap ((IntKind.i64.wrap x16) * 2 ^ 8)) (IntKind.i64.wrap x21)))) + 1)) - 1))) && decide ((IntKind.i64.wrap ((IntKind.i64.wrap ((IntKind.i64.wrap ((IntKind.i64.wrap (x6 + 2)) + (bitop .or .i64 (IntKind.i64.wrap ((IntKind.i64.wrap x16) * 2 ^ 8)) (IntKind.i64.wrap x21)))) + 1)) - 1)) ≤ (c34 : Int))) (need (decide ((0 : Int) ≤ (IntKind.i64.wrap (x6 + 2))) && decide ((IntKind.i64.wrap (x6 + 2)) ≤ (IntKind.i64.wrap ((IntKind.i64.wrap ((IntKind.i64.wrap ((IntKind.i64.wrap (x6 + 2)) + (bitop .or .i64 (IntKind.i64.wrap ((IntKind.i64.wrap x16) * 2 ^ 8)) (IntKind.i64.wrap x21)))) + 1)) - 1)))) (Calls Cz.P 128 #[(.slice (slA a32 (((IntKind.i64.wrap (x6 + 2))).toNat) c34 1) (((IntKind.i64.wrap ((IntKind.i64.wrap ((IntKind.i64.wrap ((IntKind.i64.wrap (x6 + 2)) + (bitop .or .i64 (IntKind.i64.wrap ((IntKind.i64.wrap x16) * 2 ^ 8)) (IntKind.i64.wrap x21)))) + 1)) - 1))).toNat - ((IntKind.i64.wrap (x6 + 2))).toNat) (c34 - ((IntKind.i64.wrap (x6 + 2))).toNat))] w31 (CP (fun r39 w38 => ∃ (a35 : Option Addr) (n36 : Nat) (c37 : Nat), r39 = (.slice a35 n36 c37) ∧ vCall Cz v1 [(.int .i64 (IntKind.i64.wrap ((IntKind.i64.wrap ((IntKind.i64.wrap (x6 + 2)) + (bitop .or .i64 (IntKind.i64.wrap ((IntKind.i64.wrap x16) * 2 ^ 8)) (IntKind.i64.wrap x21)))) + 1))), (.slice a35 n36 c37)] w38 (CP (fun r42 w41 => ∃ (b40 : Bool), r42 = (.bool b40) ∧ ifB (!b40) (Rt (.tuple #[]) w41) (J4 [(.int .i64 (IntKind.i64.wrap ((IntKind.i64.wrap ((IntKind.i64.wrap (x6 + 2)) + (bitop .or .i64 (IntKind.i64.wrap ((IntKind.i64.wrap x16) * 2 ^ 8)) (IntKind.i64.wrap x21)))) + 1)))] w41 ∧ m5 [(.int .i64 (IntKind.i64.wrap ((IntKind.i64.wrap ((IntKind.i64.wrap (x6 + 2)) + (bitop .or .i64 (IntKind.i64.wrap ((IntKind.i64.wrap x16) * 2 ^ 8)) (IntKind.i64.wrap x21)))) + 1)))] w41 < m5 [(.int .i64 x6)] w7)) E)) E))))
def B127_l1 (Rt : Value → World → Prop) (E : List PanicEntry → World → Prop) (v1 : Value) (q2 : Addr) (J4 : List Value → World → Prop) (m5 : List Value → World → Nat) (x6 : Int) (w7 : World) : Prop :=
  ∃ (a8 : Option Addr) (n9 : Nat) (c10 : Nat), w7.cell? q2 = some (.slice a8 n9 c10) ∧ ifB (decide ((IntKind.i64.wrap ((n9 : Int) - x6)) > 2)) ((fun w11 : World => ∃ (a12 : Option Addr) (n13 : Nat) (c14 : Nat), w11.cell? q2 = some (.slice a12 n13 c14) ∧ need (decide (0 ≤ x6) && decide (x6 < (n13 : Int))) (nn a12 fun q15 => ∃ (x16 : Int), w11.cell? (q15.add ((x6).toNat * 1)) = some (.int .u8 x16) ∧ ∃ (a17 : Option Addr) (n18 : Nat) (c19 : Nat), w11.cell? q2 = some (.slice a17 n18 c19) ∧ need (decide (0 ≤ (IntKind.i64.wrap (x6 + 1))) && decide ((IntKind.i64.wrap (x6 + 1)) < (n18 : Int))) (nn a17 fun q20 => ∃ (x21 : Int), w11.cell? (q20.add (((IntKind.i64.wrap (x6 + 1))).toNat * 1)) = some (.int .u8 x21) ∧ ifB (decide ((bitop .or .i64 (IntKind.i64.wrap ((IntKind.i64.wrap x16) * 2 ^ 8)) (IntKind.i64.wrap x21)) < 1)) (B127_j1 Rt E v1 q2 J4 m5 x6 w7 x16 x21 true w11) (ifB (decide ((bitop .or .i64 (IntKind.i64.wrap ((IntKind.i64.wrap x16) * 2 ^ 8)) (IntKind.i64.wrap x21)) > 1000)) (B127_j1 Rt E v1 q2 J4 m5 x6 w7 x16 x21 true w11) (∃ (a22 : Option Addr) (n23 : Nat) (c24 : Nat), w11.cell? q2 = some (.slice a22 n23 c24) ∧ ifB (decide ((IntKind.i64.wrap ((IntKind.i64.wrap ((IntKind.i64.wrap (x6 + 2)) + (bitop .or .i64 (IntKind.i64.wrap ((IntKind.i64.wrap x16) * 2 ^ 8)) (IntKind.i64.wrap x21)))) + 1)) > (n23 : Int))) (B127_j1 Rt E v1 q2 J4 m5 x6 w7 x16 x21 true w11) (∃ (a25 : Option Addr) (n26 : Nat) (c27 : Nat), w11.cell? q2 = some (.slice a25 n26 c27) ∧ need (decide (0 ≤ (IntKind.i64.wrap ((IntKind.i64.wrap ((IntKind.i64.wrap ((IntKind.i64.wrap (x6 + 2)) + (bitop .or .i64 (IntKind.i64.wrap ((IntKind.i64.wrap x16) * 2 ^ 8)) (IntKind.i64.wrap x21)))) + 1)) - 1))) && decide ((IntKind.i64.wrap ((IntKind.i64.wrap ((IntKind.i64.wrap ((IntKind.i64.wrap (x6 + 2)) + (bitop .or .i64 (IntKind.i64.wrap ((IntKind.i64.wrap x16) * 2 ^ 8)) (IntKind.i64.wrap x21)))) + 1)) - 1)) < (n26 : Int))) (nn a25 fun q28 => ∃ (x29 : Int), w11.cell? (q28.add (((IntKind.i64.wrap ((IntKind.i64.wrap ((IntKind.i64.wrap ((IntKind.i64.wrap (x6 + 2)) + (bitop .or .i64 (IntKind.i64.wrap ((IntKind.i64.wrap x16) * 2 ^ 8)) (IntKind.i64.wrap x21)))) + 1)) - 1))).toNat * 1)) = some (.int .u8 x29) ∧ B127_j1 Rt E v1 q2 J4 m5 x6 w7 x16 x21 (x29 != 90) w11))))))) (w7.drew)) (Rt (.tuple #[]) w7)
def B127 (v1 : Value) (q2 : Addr) (w3 : World) (Rt : Value → World → Prop) (E : List PanicEntry → World → Prop) : Prop :=
  ∃ (J4 : List Value → World → Prop) (m5 : List Value → World → Nat), J4 [(.int .i64 0)] w3 ∧ ∀ (x6 : Int) (w7 : World), J4 [(.int .i64 x6)] w7 → B127_l1 Rt E v1 q2 J4 m5 x6 w7
def A127 : Ann := fun n => match n with | 0 => [(3, .one (.int .i64))] | _ => []
theorem B127_eq (v1 : Value) (q2 : Addr) (w3 : World) (Rt : Value → World → Prop) (E : List PanicEntry → World → Prop) : vFn Cz A127 Tryz.f127.results.toList (bodyOf Tryz.f127) (startFr Tryz.f127.ntmps [v1, (.pointer (some q2))]) w3 (CP Rt E) = B127 v1 q2 w3 Rt E := by kernel_rfl
theorem C127 {v1 : Value} {q2 : Addr} {w3 : World} {Rt : Value → World → Prop} {E : List PanicEntry → World → Prop} (h : B127 v1 q2 w3 Rt E) : Calls Cz.P 127 #[v1, (.pointer (some q2))] w3 (CP Rt E) := calls_of_B (C := Cz) Cz.ok Tryz.func127 (by kernel_rfl) (B127_eq v1 q2 w3 Rt E) h


end Go.Lf
end

section
set_option linter.unusedVariables false
set_option maxRecDepth 100000
set_option maxHeartbeats 4000000
namespace Go.Lf
open Go Go.Proofs
/-! ### bytes.Clone: function 128 -/
def B128 (a1 : Option Addr) (n2 : Nat) (c3 : Nat) (w4 : World) (Rt : Value → World → Prop) (E : List PanicEntry → World → Prop) : Prop :=
  ifB (a1.isNone) (Rt (.slice none 0 0) w4) (∃ (a5 : Option Addr) (n6 : Nat) (c7 : Nat), ∃ w8 : World, Sem.run Cz.P (Instr.buildSlice 22 0 #[]) w4 = .ok (.slice a5 n6 c7) w8 ∧ ∃ (a9 : Option Addr) (n10 : Nat) (c11 : Nat), ∃ w12 : World, Sem.run Cz.P (Builtin.append_ #[22, 22] 22 #[(.slice a5 n6 c7), (.slice a1 n2 c3)]) w8 = .ok (.slice a9 n10 c11) w12 ∧ Rt (.slice a9 n10 c11) w12)
def A128 : Ann := fun _ => []
theorem B128_eq (a1 : Option Addr) (n2 : Nat) (c3 : Nat) (w4 : World) (Rt : Value → World → Prop) (E : List PanicEntry → World → Prop) : vFn Cz A128 Tryz.f128.results.toList (bodyOf Tryz.f128) (startFr Tryz.f128.ntmps [(.slice a1 n2 c3)]) w4 (CP Rt E) = B128 a1 n2 c3 w4 Rt E := by kernel_rfl
theorem C128 {a1 : Option Addr} {n2 : Nat} {c3 : Nat} {w4 : World} {Rt : Value → World → Prop} {E : List PanicEntry → World → Prop} (h : B128 a1 n2 c3 w4 Rt E) : Calls Cz.P 128 #[(.slice a1 n2 c3)] w4 (CP Rt E) := calls_of_B (C := Cz) Cz.ok Tryz.func128 (by kernel_rfl) (B128_eq a1 n2 c3 w4 Rt E) h


end Go.Lf
end

section
set_option linter.unusedVariables false
set_option maxRecDepth 100000
set_option maxHeartbeats 4000000
namespace Go.Lf
open Go Go.Proofs
/-! ### lessor/lessorref11.number: function 129 -/
def B129_l1 (Rt : Value → World → Prop) (a4 : Option Addr) (n5 : Nat) (c6 : Nat) (J8 : List Value → World → Prop) (m9 : List Value → World → Nat) (x10 : Int) (x11 : Int) (w12 : World) : Prop :=
  ifB (decide (x11 ≥ 0)) (need (decide (0 ≤ x11) && decide (x11 < (n5 : Int))) (nn a4 fun q13 => st w12 (q13.add ((x11).toNat * 1)) (.int .u8 (IntKind.u8.wrap (x10.tmod 256))) fun w14 => J8 [(.int .i64 (IntKind.i64.wrap (x10.tdiv 256))), (.int .i64 (IntKind.i64.wrap (x11 - 1)))] w14 ∧ m9 [(.int .i64 (IntKind.i64.wrap (x10.tdiv 256))), (.int .i64 (IntKind.i64.wrap (x11 - 1)))] w14 < m9 [(.int .i64 x10), (.int .i64 x11)] w12)) (Rt (.slice a4 n5 c6) w12)
def B129 (x1 : Int) (x2 : Int) (w3 : World) (Rt : Value → World → Prop) (E : List PanicEntry → World → Prop) : Prop :=
  ∃ (a4 : Option Addr) (n5 : Nat) (c6 : Nat), ∃ w7 : World, Sem.run Cz.P (Instr.makeSlice 22 (.int .i64 x2) (.int .i64 x2)) w3 = .ok (.slice a4 n5 c6) w7 ∧ ∃ (J8 : List Value → World → Prop) (m9 : List Value → World → Nat), J8 [(.int .i64 x1), (.int .i64 (IntKind.i64.wrap (x2 - 1)))] w7 ∧ ∀ (x10 : Int) (x11 : Int) (w12 : World), J8 [(.int .i64 x10), (.int .i64 x11)] w12 → B129_l1 Rt a4 n5 c6 J8 m9 x10 x11 w12
def A129 : Ann := fun n => match n with | 0 => [(0, .one (.int .i64)), (6, .one (.int .i64))] | _ => []
theorem B129_eq (x1 : Int) (x2 : Int) (w3 : World) (Rt : Value → World → Prop) (E : List PanicEntry → World → Prop) : vFn Cz A129 Tryz.f129.results.toList (bodyOf Tryz.f129) (startFr Tryz.f129.ntmps [(.int .i64 x1), (.int .i64 x2)]) w3 (CP Rt E) = B129 x1 x2 w3 Rt E := by kernel_rfl
theorem C129 {x1 : Int} {x2 : Int} {w3 : World} {Rt : Value → World → Prop} {E : List PanicEntry → World → Prop} (h : B129 x1 x2 w3 Rt E) : Calls Cz.P 129 #[(.int .i64 x1), (.int .i64 x2)] w3 (CP Rt E) := calls_of_B (C := Cz) Cz.ok Tryz.func129 (by kernel_rfl) (B129_eq x1 x2 w3 Rt E) h


end Go.Lf
end

section
set_option linter.unusedVariables false
set_option maxRecDepth 100000
set_option maxHeartbeats 4000000
namespace Go.Lf
open Go Go.Proofs
/-! ### slices.AppendSeq[[]lessor/api.Lease,lessor/api.Lease]: function 130 -/
def B130_r1 (k6 : Nat) (l8 : Nat) (rec9 : Loop) (x10 : Int) (x11 : Int) (s12 : ByteArray) (x13 : Int) (x14 : Int) (x15 : Int) (x16 : Int) (x17 : Int) (w18 : World) (Rt : Value → World → Prop) : Prop :=
  nw w18 (.cells #[(.int .u32 0), (.int .i64 0), (.string ⟨#[]⟩), (.int .i64 0), (.int .i64 0), (.int .i64 0), (.int .i64 0), (.int .i64 0)] 49) fun k19 w20 => st w20 ⟨k19, 0, none⟩ (.int .u32 x10) fun w21 => st w21 ⟨k19, 1, none⟩ (.int .i64 x11) fun w22 => st w22 ⟨k19, 2, none⟩ (.string s12) fun w23 => st w23 ⟨k19, 3, none⟩ (.int .i64 x13) fun w24 => st w24 ⟨k19, 4, none⟩ (.int .i64 x14) fun w25 => st w25 ⟨k19, 5, none⟩ (.int .i64 x15) fun w26 => st w26 ⟨k19, 6, none⟩ (.int .i64 x16) fun w27 => st w27 ⟨k19, 7, none⟩ (.int .i64 x17) fun w28 => ([] : List Nat) = [] ∧ ∃ (pn29 : Option Code), LoopAt w28 l8 rec9 .ready pn29 ∧ (fun w30 : World => ∃ (a31 : Option Addr) (n32 : Nat) (c33 : Nat), w30.cell? ⟨k6, 0, none⟩ = some (.slice a31 n32 c33) ∧ ∃ (x34 : Int) (x35 : Int) (s36 : ByteArray) (x37 : Int) (x38 : Int) (x39 : Int) (x40 : Int) (x41 : Int), (w30.cell? ⟨k19, 0, none⟩ = some (.int .u32 x34) ∧ w30.cell? ⟨k19, 1, none⟩ = some (.int .i64 x35) ∧ w30.cell? ⟨k19, 2, none⟩ = some (.string s36) ∧ w30.cell? ⟨k19, 3, none⟩ = some (.int .i64 x37) ∧ w30.cell? ⟨k19, 4, none⟩ = some (.int .i64 x38) ∧ w30.cell? ⟨k19, 5, none⟩ = some (.int .i64 x39) ∧ w30.cell? ⟨k19, 6, none⟩ = some (.int .i64 x40) ∧ w30.cell? ⟨k19, 7, none⟩ = some (.int .i64 x41) ∧ True) ∧ ∃ (a42 : Option Addr) (n43 : Nat) (c44 : Nat), ∃ w45 : World, Sem.run Cz.P (Instr.buildSlice 59 1 #[(0, (.agg #[(.int .u32 x34), (.int .i64 x35), (.string s36), (.int .i64 x37), (.int .i64 x38), (.int .i64 x39), (.int .i64 x40), (.int .i64 x41)]))]) w30 = .ok (.slice a42 n43 c44) w45 ∧ ∃ (a46 : Option Addr) (n47 : Nat) (c48 : Nat), ∃ w49 : World, Sem.run Cz.P (Builtin.append_ #[59, 59] 59 #[(.slice a31 n32 c33), (.slice a42 n43 c44)]) w45 = .ok (.slice a46 n47 c48) w49 ∧ st w49 ⟨k6, 0, none⟩ (.slice a46 n47 c48) fun w50 => ([] : List Nat) = [] ∧ ∃ (pn51 : Option Code), LoopAt w50 l8 rec9 .busy pn51 ∧ Rt (.bool true) (putLoop w50 l8 rec9 .ready none)) (putLoop w28 l8 rec9 .busy pn29)
def B130 (a1 : Option Addr) (n2 : Nat) (c3 : Nat) (v4 : Value) (w5 : World) (Rt : Value → World → Prop) (E : List PanicEntry → World → Prop) : Prop :=
  nw w5 (.cells #[(.slice a1 n2 c3)] 59) fun k6 w7 => nw w7 (.deferred (some [])) fun k59 w60 => ∀ rec52 : Loop, RecIs rec52 [none, none, some (.pointer (some ⟨k6, 0, none⟩)), none, none, none, none, none, none, none, none, none, none] #[7] (codeAt [1, 0, 1, 0, 0] (bodyOf Tryz.f130)) (codeAt [1, 0, 1, 0, 1] (bodyOf Tryz.f130)) k59 → nw w60 (.loop rec52) fun l53 w54 => vCallF Cz v4 [(.func (.yield l53) #[] #[])] w54 (CP (fun r58 w55 => EndL w55 l53 rec52 fun pn57 w56 => jumpB (∃ (a63 : Option Addr) (n64 : Nat) (c65 : Nat), w56.cell? ⟨k6, 0, none⟩ = some (.slice a63 n64 c65) ∧ w56.heap[k59]? = some (.deferred (some [])) ∧ (fun w66 : World => Rt (.slice a63 n64 c65) w66) (w56.putObj k59 (.deferred none))) (w56.heap[k59]? = some (.deferred (some [])) ∧ (fun w61 : World => Rt (.slice none 0 0) w61) (w56.putObj k59 (.deferred none))) (fun id => False) pn57) (fun ch w => w.heap[k59]? = some (.deferred (some [])) ∧ (fun w62 : World => E ch w62) (w.putObj k59 (.deferred none))))
def A130 : Ann := fun n => match n with | 0 => [(2, .one .any)] | _ => []
theorem B130_r1_eq (k6 : Nat) (l8 : Nat) (rec9 : Loop) (x10 : Int) (x11 : Int) (s12 : ByteArray) (x13 : Int) (x14 : Int) (x15 : Int) (x16 : Int) (x17 : Int) (w18 : World) (Rt : Value → World → Prop) : vRound Cz A130 (codeAt [1, 0, 1, 0, 0] (bodyOf Tryz.f130)) (codeAt [1, 0, 1, 0, 1] (bodyOf Tryz.f130)) 1 l8 rec9 (setArgs [7] [(.agg #[(.int .u32 x10), (.int .i64 x11), (.string s12), (.int .i64 x13), (.int .i64 x14), (.int .i64 x15), (.int .i64 x16), (.int .i64 x17)])] [none, none, some (.pointer (some ⟨k6, 0, none⟩)), none, none, none, none, none, none, none, none, none, none]) w18 Rt = B130_r1 k6 l8 rec9 x10 x11 s12 x13 x14 x15 x16 x17 w18 Rt := by kernel_rfl
theorem B130_r1_rnd {k6 : Nat} {l8 : Nat} {rec9 : Loop} {x10 : Int} {x11 : Int} {s12 : ByteArray} {x13 : Int} {x14 : Int} {x15 : Int} {x16 : Int} {x17 : Int} {w18 : World} {Rt : Value → World → Prop} {D : Nat} {pn : Option Code} {E : List PanicEntry → World → Prop} (hr : RecIs rec9 [none, none, some (.pointer (some ⟨k6, 0, none⟩)), none, none, none, none, none, none, none, none, none, none] #[7] (codeAt [1, 0, 1, 0, 0] (bodyOf Tryz.f130)) (codeAt [1, 0, 1, 0, 1] (bodyOf Tryz.f130)) D) (hl : LoopAt w18 l8 rec9 .ready pn) (h : B130_r1 k6 l8 rec9 x10 x11 s12 x13 x14 x15 x16 x17 w18 Rt) : Rnd Cz.P l8 #[(.agg #[(.int .u32 x10), (.int .i64 x11), (.string s12), (.int .i64 x13), (.int .i64 x14), (.int .i64 x15), (.int .i64 x16), (.int .i64 x17)])] w18 (CP Rt E) :=
  rnd_of_vRound (C := Cz) (A := A130) (n := 1) (args := [(.agg #[(.int .u32 x10), (.int .i64 x11), (.string s12), (.int .i64 x13), (.int .i64 x14), (.int .i64 x15), (.int .i64 x16), (.int .i64 x17)])]) Cz.ok hr hl rfl ((B130_r1_eq k6 l8 rec9 x10 x11 s12 x13 x14 x15 x16 x17 w18 Rt) ▸ h)
theorem B130_eq (a1 : Option Addr) (n2 : Nat) (c3 : Nat) (v4 : Value) (w5 : World) (Rt : Value → World → Prop) (E : List PanicEntry → World → Prop) : vFn Cz A130 Tryz.f130.results.toList (bodyOf Tryz.f130) (startFr Tryz.f130.ntmps [(.slice a1 n2 c3), v4]) w5 (CP Rt E) = B130 a1 n2 c3 v4 w5 Rt E := by kernel_rfl
theorem C130 {a1 : Option Addr} {n2 : Nat} {c3 : Nat} {v4 : Value} {w5 : World} {Rt : Value → World → Prop} {E : List PanicEntry → World → Prop} (h : B130 a1 n2 c3 v4 w5 Rt E) : Calls Cz.P 130 #[(.slice a1 n2 c3), v4] w5 (CP Rt E) := calls_of_B (C := Cz) Cz.ok Tryz.func130 (by kernel_rfl) (B130_eq a1 n2 c3 v4 w5 Rt E) h


end Go.Lf
end

section
set_option linter.unusedVariables false
set_option maxRecDepth 100000
set_option maxHeartbeats 4000000
namespace Go.Lf
open Go Go.Proofs
/-! ### slices.AppendSeq[[]lessor/api.Range,lessor/api.Range]: function 133 -/
def B133_r1 (k6 : Nat) (l8 : Nat) (rec9 : Loop) (x10 : Int) (x11 : Int) (w12 : World) (Rt : Value → World → Prop) : Prop :=
  nw w12 (.cells #[(.int .u32 0), (.int .u32 0)] 96) fun k13 w14 => st w14 ⟨k13, 0, none⟩ (.int .u32 x10) fun w15 => st w15 ⟨k13, 1, none⟩ (.int .u32 x11) fun w16 => ([] : List Nat) = [] ∧ ∃ (pn17 : Option Code), LoopAt w16 l8 rec9 .ready pn17 ∧ (fun w18 : World => ∃ (a19 : Option Addr) (n20 : Nat) (c21 : Nat), w18.cell? ⟨k6, 0, none⟩ = some (.slice a19 n20 c21) ∧ ∃ (x22 : Int) (x23 : Int), (w18.cell? ⟨k13, 0, none⟩ = some (.int .u32 x22) ∧ w18.cell? ⟨k13, 1, none⟩ = some (.int .u32 x23) ∧ True) ∧ ∃ (a24 : Option Addr) (n25 : Nat) (c26 : Nat), ∃ w27 : World, Sem.run Cz.P (Instr.buildSlice 23 1 #[(0, (.agg #[(.int .u32 x22), (.int .u32 x23)]))]) w18 = .ok (.slice a24 n25 c26) w27 ∧ ∃ (a28 : Option Addr) (n29 : Nat) (c30 : Nat), ∃ w31 : World, Sem.run Cz.P (Builtin.append_ #[23, 23] 23 #[(.slice a19 n20 c21), (.slice a24 n25 c26)]) w27 = .ok (.slice a28 n29 c30) w31 ∧ st w31 ⟨k6, 0, none⟩ (.slice a28 n29 c30) fun w32 => ([] : List Nat) = [] ∧ ∃ (pn33 : Option Code), LoopAt w32 l8 rec9 .busy pn33 ∧ Rt (.bool true) (putLoop w32 l8 rec9 .ready none)) (putLoop w16 l8 rec9 .busy pn17)
def B133 (a1 : Option Addr) (n2 : Nat) (c3 : Nat) (v4 : Value) (w5 : World) (Rt : Value → World → Prop) (E : List PanicEntry → World → Prop) : Prop :=
  nw w5 (.cells #[(.slice a1 n2 c3)] 23) fun k6 w7 => nw w7 (.deferred (some [])) fun k41 w42 => ∀ rec34 : Loop, RecIs rec34 [none, none, some (.pointer (some ⟨k6, 0, none⟩)), none, none, none, none, none, none, none, none, none, none] #[7] (codeAt [1, 0, 1, 0, 0] (bodyOf Tryz.f133)) (codeAt [1, 0, 1, 0, 1] (bodyOf Tryz.f133)) k41 → nw w42 (.loop rec34) fun l35 w36 => vCallF Cz v4 [(.func (.yield l35) #[] #[])] w36 (CP (fun r40 w37 => EndL w37 l35 rec34 fun pn39 w38 => jumpB (∃ (a45 : Option Addr) (n46 : Nat) (c47 : Nat), w38.cell? ⟨k6, 0, none⟩ = some (.slice a45 n46 c47) ∧ w38.heap[k41]? = some (.deferred (some [])) ∧ (fun w48 : World => Rt (.slice a45 n46 c47) w48) (w38.putObj k41 (.deferred none))) (w38.heap[k41]? = some (.deferred (some [])) ∧ (fun w43 : World => Rt (.slice none 0 0) w43) (w38.putObj k41 (.deferred none))) (fun id => False) pn39) (fun ch w => w.heap[k41]? = some (.deferred (some [])) ∧ (fun w44 : World => E ch w44) (w.putObj k41 (.deferred none))))
def A133 : Ann := fun n => match n with | 0 => [(2, .one .any)] | _ => []
theorem B133_r1_eq (k6 : Nat) (l8 : Nat) (rec9 : Loop) (x10 : Int) (x11 : Int) (w12 : World) (Rt : Value → World → Prop) : vRound Cz A133 (codeAt [1, 0, 1, 0, 0] (bodyOf Tryz.f133)) (codeAt [1, 0, 1, 0, 1] (bodyOf Tryz.f133)) 1 l8 rec9 (setArgs [7] [(.agg #[(.int .u32 x10), (.int .u32 x11)])] [none, none, some (.pointer (some ⟨k6, 0, none⟩)), none, none, none, none, none, none, none, none, none, none]) w12 Rt = B133_r1 k6 l8 rec9 x10 x11 w12 Rt := by kernel_rfl
theorem B133_r1_rnd {k6 : Nat} {l8 : Nat} {rec9 : Loop} {x10 : Int} {x11 : Int} {w12 : World} {Rt : Value → World → Prop} {D : Nat} {pn : Option Code} {E : List PanicEntry → World → Prop} (hr : RecIs rec9 [none, none, some (.pointer (some ⟨k6, 0, none⟩)), none, none, none, none, none, none, none, none, none, none] #[7] (codeAt [1, 0, 1, 0, 0] (bodyOf Tryz.f133)) (codeAt [1, 0, 1, 0, 1] (bodyOf Tryz.f133)) D) (hl : LoopAt w12 l8 rec9 .ready pn) (h : B133_r1 k6 l8 rec9 x10 x11 w12 Rt) : Rnd Cz.P l8 #[(.agg #[(.int .u32 x10), (.int .u32 x11)])] w12 (CP Rt E) :=
  rnd_of_vRound (C := Cz) (A := A133) (n := 1) (args := [(.agg #[(.int .u32 x10), (.int .u32 x11)])]) Cz.ok hr hl rfl ((B133_r1_eq k6 l8 rec9 x10 x11 w12 Rt) ▸ h)
theorem B133_eq (a1 : Option Addr) (n2 : Nat) (c3 : Nat) (v4 : Value) (w5 : World) (Rt : Value → World → Prop) (E : List PanicEntry → World → Prop) : vFn Cz A133 Tryz.f133.results.toList (bodyOf Tryz.f133) (startFr Tryz.f133.ntmps [(.slice a1 n2 c3), v4]) w5 (CP Rt E) = B133 a1 n2 c3 v4 w5 Rt E := by kernel_rfl
theorem C133 {a1 : Option Addr} {n2 : Nat} {c3 : Nat} {v4 : Value} {w5 : World} {Rt : Value → World → Prop} {E : List PanicEntry → World → Prop} (h : B133 a1 n2 c3 v4 w5 Rt E) : Calls Cz.P 133 #[(.slice a1 n2 c3), v4] w5 (CP Rt E) := calls_of_B (C := Cz) Cz.ok Tryz.func133 (by kernel_rfl) (B133_eq a1 n2 c3 v4 w5 Rt E) h


end Go.Lf
end
