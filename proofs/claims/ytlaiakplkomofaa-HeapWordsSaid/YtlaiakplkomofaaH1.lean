/- Chapter 15, first text: contracts of the functions on words, out of the evaluator's paths. -/
import Derived.Test.YtlaiakplkomofaaA22
import Derived.Test.YtlaiakplkomofaaProg
namespace Go.Proofs.Ytlaiakplkomofaa
open Go.RowKit Go.AM
set_option maxRecDepth 100000

theorem names : NamesOK Go.Proofs.Try.prog := by
  intro f fn hf hb
  have h : (Go.Proofs.Try.prog.funcs.toList.all fun fn => !(fn.name == "runtime.NumGoroutine")) = true := by kernel_rfl
  have := List.all_eq_true.1 h fn (by rw [Array.getElem?_eq_some_iff] at hf; obtain ⟨_, rfl⟩ := hf; simp)
  simpa using this
theorem mixed : Go.Proofs.Try.prog.follows .mixedOrders = true := by kernel_rfl

def hint : FuncId → Nat → Bool := fun f _ => Nat.beq f 55
noncomputable def cfg0 : Cfg := { P := Go.Proofs.Try.prog, H := hint, X := fun _ => none }
theorem x0 : XOK cfg0 := XOK.none fun _ => rfl

theorem c36_1 (a : Int) (S : AS) (h0 : (decide (a ≤ 1114111)) = true) (h1 : (decide (a < 55296)) = true) : (lower cfg0 6).call 36 [.v (.int .u64 a)] S = some (AV.v (Value.bool true), S) :=
  qcall_ok (C := cfg0) (n := 5) (x := AV.v (Value.bool true)) (ds := [true, true, true, true, true, true, true, true]) (cs := [(decide (a ≤ 1114111), true), (decide (a ≤ 1114111), true), (decide (a ≤ 1114111), true), (decide (a < 55296), true), (decide (a < 55296), true), (decide (a ≤ 1114111), true), (decide (a < 55296), true), (decide (a ≤ 1114111), true)]) rfl (by kernel_rfl) (Cons.cons h0 (Cons.cons h0 (Cons.cons h0 (Cons.cons h1 (Cons.cons h1 (Cons.cons h0 (Cons.cons h1 (Cons.cons h0 Cons.nil)))))))) (fun _ => rfl)
theorem c36_2 (a : Int) (S : AS) (h0 : (decide (a ≤ 1114111)) = true) (h1 : (decide (a < 55296)) = false) : (lower cfg0 6).call 36 [.v (.int .u64 a)] S = some (AV.v (Value.bool (decide (a > 57343))), S) :=
  qcall_ok (C := cfg0) (n := 5) (x := AV.v (Value.bool (decide (a > 57343)))) (ds := [true, true, true, false, false, true, false, true]) (cs := [(decide (a ≤ 1114111), true), (decide (a ≤ 1114111), true), (decide (a ≤ 1114111), true), (decide (a < 55296), false), (decide (a < 55296), false), (decide (a ≤ 1114111), true), (decide (a < 55296), false), (decide (a ≤ 1114111), true)]) rfl (by kernel_rfl) (Cons.cons h0 (Cons.cons h0 (Cons.cons h0 (Cons.cons h1 (Cons.cons h1 (Cons.cons h0 (Cons.cons h1 (Cons.cons h0 Cons.nil)))))))) (fun _ => rfl)
theorem c36_3 (a : Int) (S : AS) (h0 : (decide (a ≤ 1114111)) = false) : (lower cfg0 6).call 36 [.v (.int .u64 a)] S = some (AV.v (Value.bool false), S) :=
  qcall_ok (C := cfg0) (n := 5) (x := AV.v (Value.bool false)) (ds := [false, false, false, false, false]) (cs := [(decide (a ≤ 1114111), false), (decide (a ≤ 1114111), false), (decide (a ≤ 1114111), false), (decide (a ≤ 1114111), false), (decide (a ≤ 1114111), false)]) rfl (by kernel_rfl) (Cons.cons h0 (Cons.cons h0 (Cons.cons h0 (Cons.cons h0 (Cons.cons h0 Cons.nil))))) (fun _ => rfl)
theorem c37_1 (a : Int) (S : AS) (h0 : (decide (a ≥ 0)) = true) (h1 : (decide (a ≤ 1114111)) = true) (h2 : (decide (a < 55296)) = true) : (lower cfg0 6).call 37 [.v (.int .i64 a)] S = some (AV.v (Value.bool true), S) :=
  qcall_ok (C := cfg0) (n := 5) (x := AV.v (Value.bool true)) (ds := [true, true, true, true, true, true, true, true, true, true, true]) (cs := [(decide (a ≥ 0), true), (decide (a ≥ 0), true), (decide (a ≥ 0), true), (decide (a ≤ 1114111), true), (decide (a ≤ 1114111), true), (decide (a ≤ 1114111), true), (decide (a < 55296), true), (decide (a < 55296), true), (decide (a ≤ 1114111), true), (decide (a < 55296), true), (decide (a ≤ 1114111), true)]) rfl (by kernel_rfl) (Cons.cons h0 (Cons.cons h0 (Cons.cons h0 (Cons.cons h1 (Cons.cons h1 (Cons.cons h1 (Cons.cons h2 (Cons.cons h2 (Cons.cons h1 (Cons.cons h2 (Cons.cons h1 Cons.nil))))))))))) (fun _ => rfl)
theorem c37_2 (a : Int) (S : AS) (h0 : (decide (a ≥ 0)) = true) (h1 : (decide (a ≤ 1114111)) = true) (h2 : (decide (a < 55296)) = false) : (lower cfg0 6).call 37 [.v (.int .i64 a)] S = some (AV.v (Value.bool (decide (a > 57343))), S) :=
  qcall_ok (C := cfg0) (n := 5) (x := AV.v (Value.bool (decide (a > 57343)))) (ds := [true, true, true, true, true, true, false, false, true, false, true]) (cs := [(decide (a ≥ 0), true), (decide (a ≥ 0), true), (decide (a ≥ 0), true), (decide (a ≤ 1114111), true), (decide (a ≤ 1114111), true), (decide (a ≤ 1114111), true), (decide (a < 55296), false), (decide (a < 55296), false), (decide (a ≤ 1114111), true), (decide (a < 55296), false), (decide (a ≤ 1114111), true)]) rfl (by kernel_rfl) (Cons.cons h0 (Cons.cons h0 (Cons.cons h0 (Cons.cons h1 (Cons.cons h1 (Cons.cons h1 (Cons.cons h2 (Cons.cons h2 (Cons.cons h1 (Cons.cons h2 (Cons.cons h1 Cons.nil))))))))))) (fun _ => rfl)
theorem c37_3 (a : Int) (S : AS) (h0 : (decide (a ≥ 0)) = true) (h1 : (decide (a ≤ 1114111)) = false) : (lower cfg0 6).call 37 [.v (.int .i64 a)] S = some (AV.v (Value.bool false), S) :=
  qcall_ok (C := cfg0) (n := 5) (x := AV.v (Value.bool false)) (ds := [true, true, true, false, false, false, false, false]) (cs := [(decide (a ≥ 0), true), (decide (a ≥ 0), true), (decide (a ≥ 0), true), (decide (a ≤ 1114111), false), (decide (a ≤ 1114111), false), (decide (a ≤ 1114111), false), (decide (a ≤ 1114111), false), (decide (a ≤ 1114111), false)]) rfl (by kernel_rfl) (Cons.cons h0 (Cons.cons h0 (Cons.cons h0 (Cons.cons h1 (Cons.cons h1 (Cons.cons h1 (Cons.cons h1 (Cons.cons h1 Cons.nil)))))))) (fun _ => rfl)
theorem c37_4 (a : Int) (S : AS) (h0 : (decide (a ≥ 0)) = false) : (lower cfg0 6).call 37 [.v (.int .i64 a)] S = some (AV.v (Value.bool false), S) :=
  qcall_ok (C := cfg0) (n := 5) (x := AV.v (Value.bool false)) (ds := [false, false, false, false, false, false, false, false]) (cs := [(decide (a ≥ 0), false), (decide (a ≥ 0), false), (decide (a ≥ 0), false), (false, false), (false, false), (false, false), (false, false), (false, false)]) rfl (by kernel_rfl) (Cons.cons h0 (Cons.cons h0 (Cons.cons h0 (Cons.cons rfl (Cons.cons rfl (Cons.cons rfl (Cons.cons rfl (Cons.cons rfl Cons.nil)))))))) (fun _ => rfl)

def rightB (a : Int) : Bool := decide (a ≤ 1114111) && (decide (a < 55296) || decide (a > 57343))
def codeB (a : Int) : Bool := decide (a ≥ 0) && (decide (a ≤ 1114111) && (decide (a < 55296) || decide (a > 57343)))
def tab1 : List (Nat × Con) := [(36, x1 .u64 fun a => .v (.bool (rightB a))), (37, x1 .i64 fun a => .v (.bool (codeB a)))]
noncomputable def cfg1 : Cfg := { P := Go.Proofs.Try.prog, H := hint, X := xlook tab1 }

theorem c36 (a : Int) (S : AS) : (lower cfg0 6).call 36 [.v (.int .u64 a)] S = some (.v (.bool (rightB a)), S) := by
  unfold rightB
  cases h0 : decide (a ≤ 1114111) with
  | true =>
    cases h1 : decide (a < 55296) with
    | true => exact c36_1 a S h0 h1
    | false => exact c36_2 a S h0 h1
  | false => exact c36_3 a S h0
theorem c37 (a : Int) (S : AS) : (lower cfg0 6).call 37 [.v (.int .i64 a)] S = some (.v (.bool (codeB a)), S) := by
  unfold codeB
  cases h0 : decide (a ≥ 0) with
  | true =>
    cases h1 : decide (a ≤ 1114111) with
    | true =>
      cases h2 : decide (a < 55296) with
      | true => exact c37_1 a S h0 h1 h2
      | false => exact c37_2 a S h0 h1 h2
    | false => exact c37_3 a S h0 h1
  | false => exact c37_4 a S h0

theorem x1ok : XOK cfg1 := XOK.table (C0 := cfg0) (t := tab1) rfl names x0 mixed rfl (by
  simp only [tab1, List.forall_mem_cons]
  exact ⟨x1_does c36, x1_does c37, fun _ h => by cases h⟩)

theorem c7_1 (a : Int) (S : AS) (h0 : (decide (a < -1152921504606846976)) = true) : (lower cfg1 6).call 7 [.v (.int .i64 a)] S = some (AV.tup [AV.v (Value.int IntKind.u64 (Int.ofNat 0)), AV.v (Value.int IntKind.i64 (Int.ofNat 3))], S) :=
  qcall_ok (C := cfg1) (n := 5) (x := AV.tup [AV.v (Value.int IntKind.u64 (Int.ofNat 0)), AV.v (Value.int IntKind.i64 (Int.ofNat 3))]) (ds := [true, true, true, true]) (cs := [(decide (a < -1152921504606846976), true), (decide (a < -1152921504606846976), true), (decide (a < -1152921504606846976), true), (true, true)]) rfl (by kernel_rfl) (Cons.cons h0 (Cons.cons h0 (Cons.cons h0 (Cons.cons rfl Cons.nil)))) (fun _ => rfl)
theorem c7_2 (a : Int) (S : AS) (h0 : (decide (a < -1152921504606846976)) = false) (h1 : (decide (a ≥ 1152921504606846976)) = true) : (lower cfg1 6).call 7 [.v (.int .i64 a)] S = some (AV.tup [AV.v (Value.int IntKind.u64 (Int.ofNat 0)), AV.v (Value.int IntKind.i64 (Int.ofNat 3))], S) :=
  qcall_ok (C := cfg1) (n := 5) (x := AV.tup [AV.v (Value.int IntKind.u64 (Int.ofNat 0)), AV.v (Value.int IntKind.i64 (Int.ofNat 3))]) (ds := [false, false, false, true]) (cs := [(decide (a < -1152921504606846976), false), (decide (a < -1152921504606846976), false), (decide (a < -1152921504606846976), false), (decide (a ≥ 1152921504606846976), true)]) rfl (by kernel_rfl) (Cons.cons h0 (Cons.cons h0 (Cons.cons h0 (Cons.cons h1 Cons.nil)))) (fun _ => rfl)
theorem c7_3 (a : Int) (S : AS) (h0 : (decide (a < -1152921504606846976)) = false) (h1 : (decide (a ≥ 1152921504606846976)) = false) : (lower cfg1 6).call 7 [.v (.int .i64 a)] S = some (AV.tup [AV.v (Value.int IntKind.u64 (IntKind.u64.wrap (IntKind.u64.wrap a * 2 ^ min (Int.toNat 3) IntKind.u64.bits))), AV.v (Value.int IntKind.i64 (Int.ofNat 0))], S) :=
  qcall_ok (C := cfg1) (n := 5) (x := AV.tup [AV.v (Value.int IntKind.u64 (IntKind.u64.wrap (IntKind.u64.wrap a * 2 ^ min (Int.toNat 3) IntKind.u64.bits))), AV.v (Value.int IntKind.i64 (Int.ofNat 0))]) (ds := [false, false, false, false]) (cs := [(decide (a < -1152921504606846976), false), (decide (a < -1152921504606846976), false), (decide (a < -1152921504606846976), false), (decide (a ≥ 1152921504606846976), false)]) rfl (by kernel_rfl) (Cons.cons h0 (Cons.cons h0 (Cons.cons h0 (Cons.cons h1 Cons.nil)))) (fun _ => rfl)
theorem c8_1 (a : Int) (S : AS) (h0 : (decide (a < -1152921504606846976)) = true) : (lower cfg1 6).call 8 [.v (.int .i64 a)] S = some (AV.tup [AV.v (Value.int IntKind.u64 (Int.ofNat 0)), AV.v (Value.int IntKind.i64 (Int.ofNat 3))], S) :=
  qcall_ok (C := cfg1) (n := 5) (x := AV.tup [AV.v (Value.int IntKind.u64 (Int.ofNat 0)), AV.v (Value.int IntKind.i64 (Int.ofNat 3))]) (ds := [true, true, true, true]) (cs := [(decide (a < -1152921504606846976), true), (decide (a < -1152921504606846976), true), (decide (a < -1152921504606846976), true), (true, true)]) rfl (by kernel_rfl) (Cons.cons h0 (Cons.cons h0 (Cons.cons h0 (Cons.cons rfl Cons.nil)))) (fun _ => rfl)
theorem c8_2 (a : Int) (S : AS) (h0 : (decide (a < -1152921504606846976)) = false) (h1 : (decide (a ≥ 1152921504606846976)) = true) : (lower cfg1 6).call 8 [.v (.int .i64 a)] S = some (AV.tup [AV.v (Value.int IntKind.u64 (Int.ofNat 0)), AV.v (Value.int IntKind.i64 (Int.ofNat 3))], S) :=
  qcall_ok (C := cfg1) (n := 5) (x := AV.tup [AV.v (Value.int IntKind.u64 (Int.ofNat 0)), AV.v (Value.int IntKind.i64 (Int.ofNat 3))]) (ds := [false, false, false, true]) (cs := [(decide (a < -1152921504606846976), false), (decide (a < -1152921504606846976), false), (decide (a < -1152921504606846976), false), (decide (a ≥ 1152921504606846976), true)]) rfl (by kernel_rfl) (Cons.cons h0 (Cons.cons h0 (Cons.cons h0 (Cons.cons h1 Cons.nil)))) (fun _ => rfl)
theorem c8_3 (a : Int) (S : AS) (h0 : (decide (a < -1152921504606846976)) = false) (h1 : (decide (a ≥ 1152921504606846976)) = false) : (lower cfg1 6).call 8 [.v (.int .i64 a)] S = some (AV.tup [AV.v (Value.int IntKind.u64 (IntKind.u64.wrap (IntKind.u64.wrap a * 2 ^ min (Int.toNat 3) IntKind.u64.bits))), AV.v (Value.int IntKind.i64 (Int.ofNat 0))], S) :=
  qcall_ok (C := cfg1) (n := 5) (x := AV.tup [AV.v (Value.int IntKind.u64 (IntKind.u64.wrap (IntKind.u64.wrap a * 2 ^ min (Int.toNat 3) IntKind.u64.bits))), AV.v (Value.int IntKind.i64 (Int.ofNat 0))]) (ds := [false, false, false, false]) (cs := [(decide (a < -1152921504606846976), false), (decide (a < -1152921504606846976), false), (decide (a < -1152921504606846976), false), (decide (a ≥ 1152921504606846976), false)]) rfl (by kernel_rfl) (Cons.cons h0 (Cons.cons h0 (Cons.cons h0 (Cons.cons h1 Cons.nil)))) (fun _ => rfl)
theorem c11_1 (a : Int) (S : AS) (h0 : (IntKind.u64.wrap ↑(BitVec.ofInt IntKind.u64.bits a &&& BitVec.ofInt IntKind.u64.bits 7).toNat != 0) = true) : (lower cfg1 6).call 11 [.v (.int .u64 a)] S = some (AV.tup [AV.v (Value.int IntKind.i64 (Int.ofNat 0)), AV.v (Value.bool false)], S) :=
  qcall_ok (C := cfg1) (n := 5) (x := AV.tup [AV.v (Value.int IntKind.i64 (Int.ofNat 0)), AV.v (Value.bool false)]) (ds := [true]) (cs := [(IntKind.u64.wrap ↑(BitVec.ofInt IntKind.u64.bits a &&& BitVec.ofInt IntKind.u64.bits 7).toNat != 0, true)]) rfl (by kernel_rfl) (Cons.cons h0 Cons.nil) (fun _ => rfl)
theorem c11_2 (a : Int) (S : AS) (h0 : (IntKind.u64.wrap ↑(BitVec.ofInt IntKind.u64.bits a &&& BitVec.ofInt IntKind.u64.bits 7).toNat != 0) = false) : (lower cfg1 6).call 11 [.v (.int .u64 a)] S = some (AV.tup [AV.v (Value.int IntKind.i64 ((IntKind.i64.wrap a).fdiv (2 ^ min (Int.toNat 3) IntKind.i64.bits))), AV.v (Value.bool true)], S) :=
  qcall_ok (C := cfg1) (n := 5) (x := AV.tup [AV.v (Value.int IntKind.i64 ((IntKind.i64.wrap a).fdiv (2 ^ min (Int.toNat 3) IntKind.i64.bits))), AV.v (Value.bool true)]) (ds := [false]) (cs := [(IntKind.u64.wrap ↑(BitVec.ofInt IntKind.u64.bits a &&& BitVec.ofInt IntKind.u64.bits 7).toNat != 0, false)]) rfl (by kernel_rfl) (Cons.cons h0 Cons.nil) (fun _ => rfl)
theorem c12_1 (a : Int) (S : AS) (h0 : (IntKind.u64.wrap ↑(BitVec.ofInt IntKind.u64.bits a &&& BitVec.ofInt IntKind.u64.bits 7).toNat != 0) = true) : (lower cfg1 6).call 12 [.v (.int .u64 a)] S = some (AV.tup [AV.v (Value.int IntKind.i64 (Int.ofNat 0)), AV.v (Value.bool false)], S) :=
  qcall_ok (C := cfg1) (n := 5) (x := AV.tup [AV.v (Value.int IntKind.i64 (Int.ofNat 0)), AV.v (Value.bool false)]) (ds := [true]) (cs := [(IntKind.u64.wrap ↑(BitVec.ofInt IntKind.u64.bits a &&& BitVec.ofInt IntKind.u64.bits 7).toNat != 0, true)]) rfl (by kernel_rfl) (Cons.cons h0 Cons.nil) (fun _ => rfl)
theorem c12_2 (a : Int) (S : AS) (h0 : (IntKind.u64.wrap ↑(BitVec.ofInt IntKind.u64.bits a &&& BitVec.ofInt IntKind.u64.bits 7).toNat != 0) = false) : (lower cfg1 6).call 12 [.v (.int .u64 a)] S = some (AV.tup [AV.v (Value.int IntKind.i64 ((IntKind.i64.wrap a).fdiv (2 ^ min (Int.toNat 3) IntKind.i64.bits))), AV.v (Value.bool true)], S) :=
  qcall_ok (C := cfg1) (n := 5) (x := AV.tup [AV.v (Value.int IntKind.i64 ((IntKind.i64.wrap a).fdiv (2 ^ min (Int.toNat 3) IntKind.i64.bits))), AV.v (Value.bool true)]) (ds := [false]) (cs := [(IntKind.u64.wrap ↑(BitVec.ofInt IntKind.u64.bits a &&& BitVec.ofInt IntKind.u64.bits 7).toNat != 0, false)]) rfl (by kernel_rfl) (Cons.cons h0 Cons.nil) (fun _ => rfl)
theorem c15_1 (a : Int) (S : AS)  : (lower cfg1 6).call 15 [.v (.int .u64 a)] S = some (AV.v (Value.bool (IntKind.u64.wrap ↑(BitVec.ofInt IntKind.u64.bits a &&& BitVec.ofInt IntKind.u64.bits 7).toNat == 3)), S) :=
  qcall_ok (C := cfg1) (n := 5) (x := AV.v (Value.bool (IntKind.u64.wrap ↑(BitVec.ofInt IntKind.u64.bits a &&& BitVec.ofInt IntKind.u64.bits 7).toNat == 3))) (ds := []) (cs := []) rfl (by kernel_rfl) Cons.nil (fun _ => rfl)
theorem c16_1 (a : Int) (S : AS)  : (lower cfg1 6).call 16 [.v (.int .u64 a)] S = some (AV.v (Value.bool (IntKind.u64.wrap ↑(BitVec.ofInt IntKind.u64.bits a &&& BitVec.ofInt IntKind.u64.bits 7).toNat == 3)), S) :=
  qcall_ok (C := cfg1) (n := 5) (x := AV.v (Value.bool (IntKind.u64.wrap ↑(BitVec.ofInt IntKind.u64.bits a &&& BitVec.ofInt IntKind.u64.bits 7).toNat == 3))) (ds := []) (cs := []) rfl (by kernel_rfl) Cons.nil (fun _ => rfl)
theorem c9_1 (a : Int) (S : AS) (h0 : (decide (a < 0)) = true) : (lower cfg1 6).call 9 [.v (.int .i32 a)] S = some (AV.tup [AV.v (Value.int IntKind.u64 (Int.ofNat 0)), AV.v (Value.int IntKind.i64 (Int.ofNat 3))], S) :=
  qcall_ok (C := cfg1) (n := 5) (x := AV.tup [AV.v (Value.int IntKind.u64 (Int.ofNat 0)), AV.v (Value.int IntKind.i64 (Int.ofNat 3))]) (ds := [true, true, true, true, true, true]) (cs := [(decide (a < 0), true), (decide (a < 0), true), (decide (a < 0), true), (decide (a < 0), true), (decide (a < 0), true), (true, true)]) rfl (by kernel_rfl) (Cons.cons h0 (Cons.cons h0 (Cons.cons h0 (Cons.cons h0 (Cons.cons h0 (Cons.cons rfl Cons.nil)))))) (fun _ => rfl)
theorem c9_2 (a : Int) (S : AS) (h0 : (decide (a < 0)) = false) (h1 : (!rightB (IntKind.u64.wrap a)) = true) : (lower cfg1 6).call 9 [.v (.int .i32 a)] S = some (AV.tup [AV.v (Value.int IntKind.u64 (Int.ofNat 0)), AV.v (Value.int IntKind.i64 (Int.ofNat 3))], S) :=
  qcall_ok (C := cfg1) (n := 5) (x := AV.tup [AV.v (Value.int IntKind.u64 (Int.ofNat 0)), AV.v (Value.int IntKind.i64 (Int.ofNat 3))]) (ds := [false, false, false, false, false, true]) (cs := [(decide (a < 0), false), (decide (a < 0), false), (decide (a < 0), false), (decide (a < 0), false), (decide (a < 0), false), (!rightB (IntKind.u64.wrap a), true)]) rfl (by kernel_rfl) (Cons.cons h0 (Cons.cons h0 (Cons.cons h0 (Cons.cons h0 (Cons.cons h0 (Cons.cons h1 Cons.nil)))))) (fun _ => rfl)
theorem c9_3 (a : Int) (S : AS) (h0 : (decide (a < 0)) = false) (h1 : (!rightB (IntKind.u64.wrap a)) = false) : (lower cfg1 6).call 9 [.v (.int .i32 a)] S = some (AV.tup [AV.v (Value.int IntKind.u64 (Int.ofNat ((BitVec.ofInt IntKind.u64.bits (IntKind.u64.wrap (IntKind.u64.wrap a * 2 ^ min (Int.toNat 3) IntKind.u64.bits)) ||| BitVec.ofInt IntKind.u64.bits 1).toNat % ((2 : Int) ^ IntKind.u64.bits).natAbs))), AV.v (Value.int IntKind.i64 (Int.ofNat 0))], S) :=
  qcall_ok (C := cfg1) (n := 5) (x := AV.tup [AV.v (Value.int IntKind.u64 (Int.ofNat ((BitVec.ofInt IntKind.u64.bits (IntKind.u64.wrap (IntKind.u64.wrap a * 2 ^ min (Int.toNat 3) IntKind.u64.bits)) ||| BitVec.ofInt IntKind.u64.bits 1).toNat % ((2 : Int) ^ IntKind.u64.bits).natAbs))), AV.v (Value.int IntKind.i64 (Int.ofNat 0))]) (ds := [false, false, false, false, false, false]) (cs := [(decide (a < 0), false), (decide (a < 0), false), (decide (a < 0), false), (decide (a < 0), false), (decide (a < 0), false), (!rightB (IntKind.u64.wrap a), false)]) rfl (by kernel_rfl) (Cons.cons h0 (Cons.cons h0 (Cons.cons h0 (Cons.cons h0 (Cons.cons h0 (Cons.cons h1 Cons.nil)))))) (fun _ => rfl)
theorem c10_1 (a : Int) (S : AS) (h0 : (!codeB (IntKind.i64.wrap a)) = true) : (lower cfg1 6).call 10 [.v (.int .i32 a)] S = some (AV.tup [AV.v (Value.int IntKind.u64 (Int.ofNat 0)), AV.v (Value.int IntKind.i64 (Int.ofNat 3))], S) :=
  qcall_ok (C := cfg1) (n := 5) (x := AV.tup [AV.v (Value.int IntKind.u64 (Int.ofNat 0)), AV.v (Value.int IntKind.i64 (Int.ofNat 3))]) (ds := [true]) (cs := [(!codeB (IntKind.i64.wrap a), true)]) rfl (by kernel_rfl) (Cons.cons h0 Cons.nil) (fun _ => rfl)
theorem c10_2 (a : Int) (S : AS) (h0 : (!codeB (IntKind.i64.wrap a)) = false) : (lower cfg1 6).call 10 [.v (.int .i32 a)] S = some (AV.tup [AV.v (Value.int IntKind.u64 (Int.ofNat ((BitVec.ofInt IntKind.u64.bits (IntKind.u64.wrap (IntKind.u64.wrap a * 2 ^ min (Int.toNat 3) IntKind.u64.bits)) ||| BitVec.ofInt IntKind.u64.bits 1).toNat % ((2 : Int) ^ IntKind.u64.bits).natAbs))), AV.v (Value.int IntKind.i64 (Int.ofNat 0))], S) :=
  qcall_ok (C := cfg1) (n := 5) (x := AV.tup [AV.v (Value.int IntKind.u64 (Int.ofNat ((BitVec.ofInt IntKind.u64.bits (IntKind.u64.wrap (IntKind.u64.wrap a * 2 ^ min (Int.toNat 3) IntKind.u64.bits)) ||| BitVec.ofInt IntKind.u64.bits 1).toNat % ((2 : Int) ^ IntKind.u64.bits).natAbs))), AV.v (Value.int IntKind.i64 (Int.ofNat 0))]) (ds := [false]) (cs := [(!codeB (IntKind.i64.wrap a), false)]) rfl (by kernel_rfl) (Cons.cons h0 Cons.nil) (fun _ => rfl)
theorem c13_1 (a : Int) (S : AS) (h0 : (IntKind.u64.wrap ↑(BitVec.ofInt IntKind.u64.bits a &&& BitVec.ofInt IntKind.u64.bits 7).toNat == 1) = true) (h1 : (rightB (a.fdiv (2 ^ min (Int.toNat 3) IntKind.u64.bits))) = true) : (lower cfg1 6).call 13 [.v (.int .u64 a)] S = some (AV.tup [AV.v (Value.int IntKind.i32 (IntKind.i32.wrap (a.fdiv (2 ^ min (Int.toNat 3) IntKind.u64.bits)))), AV.v (Value.bool true)], S) :=
  qcall_ok (C := cfg1) (n := 5) (x := AV.tup [AV.v (Value.int IntKind.i32 (IntKind.i32.wrap (a.fdiv (2 ^ min (Int.toNat 3) IntKind.u64.bits)))), AV.v (Value.bool true)]) (ds := [true, true, true, true]) (cs := [(IntKind.u64.wrap ↑(BitVec.ofInt IntKind.u64.bits a &&& BitVec.ofInt IntKind.u64.bits 7).toNat == 1, true), (IntKind.u64.wrap ↑(BitVec.ofInt IntKind.u64.bits a &&& BitVec.ofInt IntKind.u64.bits 7).toNat == 1, true), (IntKind.u64.wrap ↑(BitVec.ofInt IntKind.u64.bits a &&& BitVec.ofInt IntKind.u64.bits 7).toNat == 1, true), (rightB (a.fdiv (2 ^ min (Int.toNat 3) IntKind.u64.bits)), true)]) rfl (by kernel_rfl) (Cons.cons h0 (Cons.cons h0 (Cons.cons h0 (Cons.cons h1 Cons.nil)))) (fun _ => rfl)
theorem c13_2 (a : Int) (S : AS) (h0 : (IntKind.u64.wrap ↑(BitVec.ofInt IntKind.u64.bits a &&& BitVec.ofInt IntKind.u64.bits 7).toNat == 1) = true) (h1 : (rightB (a.fdiv (2 ^ min (Int.toNat 3) IntKind.u64.bits))) = false) : (lower cfg1 6).call 13 [.v (.int .u64 a)] S = some (AV.tup [AV.v (Value.int IntKind.i32 (Int.ofNat 0)), AV.v (Value.bool false)], S) :=
  qcall_ok (C := cfg1) (n := 5) (x := AV.tup [AV.v (Value.int IntKind.i32 (Int.ofNat 0)), AV.v (Value.bool false)]) (ds := [true, true, true, false]) (cs := [(IntKind.u64.wrap ↑(BitVec.ofInt IntKind.u64.bits a &&& BitVec.ofInt IntKind.u64.bits 7).toNat == 1, true), (IntKind.u64.wrap ↑(BitVec.ofInt IntKind.u64.bits a &&& BitVec.ofInt IntKind.u64.bits 7).toNat == 1, true), (IntKind.u64.wrap ↑(BitVec.ofInt IntKind.u64.bits a &&& BitVec.ofInt IntKind.u64.bits 7).toNat == 1, true), (rightB (a.fdiv (2 ^ min (Int.toNat 3) IntKind.u64.bits)), false)]) rfl (by kernel_rfl) (Cons.cons h0 (Cons.cons h0 (Cons.cons h0 (Cons.cons h1 Cons.nil)))) (fun _ => rfl)
theorem c13_3 (a : Int) (S : AS) (h0 : (IntKind.u64.wrap ↑(BitVec.ofInt IntKind.u64.bits a &&& BitVec.ofInt IntKind.u64.bits 7).toNat == 1) = false) : (lower cfg1 6).call 13 [.v (.int .u64 a)] S = some (AV.tup [AV.v (Value.int IntKind.i32 (Int.ofNat 0)), AV.v (Value.bool false)], S) :=
  qcall_ok (C := cfg1) (n := 5) (x := AV.tup [AV.v (Value.int IntKind.i32 (Int.ofNat 0)), AV.v (Value.bool false)]) (ds := [false, false, false, false]) (cs := [(IntKind.u64.wrap ↑(BitVec.ofInt IntKind.u64.bits a &&& BitVec.ofInt IntKind.u64.bits 7).toNat == 1, false), (IntKind.u64.wrap ↑(BitVec.ofInt IntKind.u64.bits a &&& BitVec.ofInt IntKind.u64.bits 7).toNat == 1, false), (IntKind.u64.wrap ↑(BitVec.ofInt IntKind.u64.bits a &&& BitVec.ofInt IntKind.u64.bits 7).toNat == 1, false), (false, false)]) rfl (by kernel_rfl) (Cons.cons h0 (Cons.cons h0 (Cons.cons h0 (Cons.cons rfl Cons.nil)))) (fun _ => rfl)
theorem c14_1 (a : Int) (S : AS) (h0 : (IntKind.u64.wrap ↑(BitVec.ofInt IntKind.u64.bits a &&& BitVec.ofInt IntKind.u64.bits 7).toNat != 1) = true) : (lower cfg1 6).call 14 [.v (.int .u64 a)] S = some (AV.tup [AV.v (Value.int IntKind.i32 (Int.ofNat 0)), AV.v (Value.bool false)], S) :=
  qcall_ok (C := cfg1) (n := 5) (x := AV.tup [AV.v (Value.int IntKind.i32 (Int.ofNat 0)), AV.v (Value.bool false)]) (ds := [true, true, true, true, true, true, true, true, true, true, true]) (cs := [(IntKind.u64.wrap ↑(BitVec.ofInt IntKind.u64.bits a &&& BitVec.ofInt IntKind.u64.bits 7).toNat != 1, true), (IntKind.u64.wrap ↑(BitVec.ofInt IntKind.u64.bits a &&& BitVec.ofInt IntKind.u64.bits 7).toNat != 1, true), (IntKind.u64.wrap ↑(BitVec.ofInt IntKind.u64.bits a &&& BitVec.ofInt IntKind.u64.bits 7).toNat != 1, true), (IntKind.u64.wrap ↑(BitVec.ofInt IntKind.u64.bits a &&& BitVec.ofInt IntKind.u64.bits 7).toNat != 1, true), (true, true), (true, true), (true, true), (true, true), (true, true), (true, true), (true, true)]) rfl (by kernel_rfl) (Cons.cons h0 (Cons.cons h0 (Cons.cons h0 (Cons.cons h0 (Cons.cons rfl (Cons.cons rfl (Cons.cons rfl (Cons.cons rfl (Cons.cons rfl (Cons.cons rfl (Cons.cons rfl Cons.nil))))))))))) (fun _ => rfl)
theorem c14_2 (a : Int) (S : AS) (h0 : (IntKind.u64.wrap ↑(BitVec.ofInt IntKind.u64.bits a &&& BitVec.ofInt IntKind.u64.bits 7).toNat != 1) = false) (h1 : (decide (a.fdiv (2 ^ min (Int.toNat 3) IntKind.u64.bits) > 1114111)) = true) : (lower cfg1 6).call 14 [.v (.int .u64 a)] S = some (AV.tup [AV.v (Value.int IntKind.i32 (Int.ofNat 0)), AV.v (Value.bool false)], S) :=
  qcall_ok (C := cfg1) (n := 5) (x := AV.tup [AV.v (Value.int IntKind.i32 (Int.ofNat 0)), AV.v (Value.bool false)]) (ds := [false, false, false, false, true, true, true, true, true, true, true]) (cs := [(IntKind.u64.wrap ↑(BitVec.ofInt IntKind.u64.bits a &&& BitVec.ofInt IntKind.u64.bits 7).toNat != 1, false), (IntKind.u64.wrap ↑(BitVec.ofInt IntKind.u64.bits a &&& BitVec.ofInt IntKind.u64.bits 7).toNat != 1, false), (IntKind.u64.wrap ↑(BitVec.ofInt IntKind.u64.bits a &&& BitVec.ofInt IntKind.u64.bits 7).toNat != 1, false), (IntKind.u64.wrap ↑(BitVec.ofInt IntKind.u64.bits a &&& BitVec.ofInt IntKind.u64.bits 7).toNat != 1, false), (decide (a.fdiv (2 ^ min (Int.toNat 3) IntKind.u64.bits) > 1114111), true), (decide (a.fdiv (2 ^ min (Int.toNat 3) IntKind.u64.bits) > 1114111), true), (decide (a.fdiv (2 ^ min (Int.toNat 3) IntKind.u64.bits) > 1114111), true), (decide (a.fdiv (2 ^ min (Int.toNat 3) IntKind.u64.bits) > 1114111), true), (decide (a.fdiv (2 ^ min (Int.toNat 3) IntKind.u64.bits) > 1114111), true), (decide (a.fdiv (2 ^ min (Int.toNat 3) IntKind.u64.bits) > 1114111), true), (true, true)]) rfl (by kernel_rfl) (Cons.cons h0 (Cons.cons h0 (Cons.cons h0 (Cons.cons h0 (Cons.cons h1 (Cons.cons h1 (Cons.cons h1 (Cons.cons h1 (Cons.cons h1 (Cons.cons h1 (Cons.cons rfl Cons.nil))))))))))) (fun _ => rfl)
theorem c14_3 (a : Int) (S : AS) (h0 : (IntKind.u64.wrap ↑(BitVec.ofInt IntKind.u64.bits a &&& BitVec.ofInt IntKind.u64.bits 7).toNat != 1) = false) (h1 : (decide (a.fdiv (2 ^ min (Int.toNat 3) IntKind.u64.bits) > 1114111)) = false) (h2 : (!codeB (IntKind.i64.wrap (a.fdiv (2 ^ min (Int.toNat 3) IntKind.u64.bits)))) = true) : (lower cfg1 6).call 14 [.v (.int .u64 a)] S = some (AV.tup [AV.v (Value.int IntKind.i32 (Int.ofNat 0)), AV.v (Value.bool false)], S) :=
  qcall_ok (C := cfg1) (n := 5) (x := AV.tup [AV.v (Value.int IntKind.i32 (Int.ofNat 0)), AV.v (Value.bool false)]) (ds := [false, false, false, false, false, false, false, false, false, false, true]) (cs := [(IntKind.u64.wrap ↑(BitVec.ofInt IntKind.u64.bits a &&& BitVec.ofInt IntKind.u64.bits 7).toNat != 1, false), (IntKind.u64.wrap ↑(BitVec.ofInt IntKind.u64.bits a &&& BitVec.ofInt IntKind.u64.bits 7).toNat != 1, false), (IntKind.u64.wrap ↑(BitVec.ofInt IntKind.u64.bits a &&& BitVec.ofInt IntKind.u64.bits 7).toNat != 1, false), (IntKind.u64.wrap ↑(BitVec.ofInt IntKind.u64.bits a &&& BitVec.ofInt IntKind.u64.bits 7).toNat != 1, false), (decide (a.fdiv (2 ^ min (Int.toNat 3) IntKind.u64.bits) > 1114111), false), (decide (a.fdiv (2 ^ min (Int.toNat 3) IntKind.u64.bits) > 1114111), false), (decide (a.fdiv (2 ^ min (Int.toNat 3) IntKind.u64.bits) > 1114111), false), (decide (a.fdiv (2 ^ min (Int.toNat 3) IntKind.u64.bits) > 1114111), false), (decide (a.fdiv (2 ^ min (Int.toNat 3) IntKind.u64.bits) > 1114111), false), (decide (a.fdiv (2 ^ min (Int.toNat 3) IntKind.u64.bits) > 1114111), false), (!codeB (IntKind.i64.wrap (a.fdiv (2 ^ min (Int.toNat 3) IntKind.u64.bits))), true)]) rfl (by kernel_rfl) (Cons.cons h0 (Cons.cons h0 (Cons.cons h0 (Cons.cons h0 (Cons.cons h1 (Cons.cons h1 (Cons.cons h1 (Cons.cons h1 (Cons.cons h1 (Cons.cons h1 (Cons.cons h2 Cons.nil))))))))))) (fun _ => rfl)
theorem c14_4 (a : Int) (S : AS) (h0 : (IntKind.u64.wrap ↑(BitVec.ofInt IntKind.u64.bits a &&& BitVec.ofInt IntKind.u64.bits 7).toNat != 1) = false) (h1 : (decide (a.fdiv (2 ^ min (Int.toNat 3) IntKind.u64.bits) > 1114111)) = false) (h2 : (!codeB (IntKind.i64.wrap (a.fdiv (2 ^ min (Int.toNat 3) IntKind.u64.bits)))) = false) : (lower cfg1 6).call 14 [.v (.int .u64 a)] S = some (AV.tup [AV.v (Value.int IntKind.i32 (IntKind.i32.wrap (a.fdiv (2 ^ min (Int.toNat 3) IntKind.u64.bits)))), AV.v (Value.bool true)], S) :=
  qcall_ok (C := cfg1) (n := 5) (x := AV.tup [AV.v (Value.int IntKind.i32 (IntKind.i32.wrap (a.fdiv (2 ^ min (Int.toNat 3) IntKind.u64.bits)))), AV.v (Value.bool true)]) (ds := [false, false, false, false, false, false, false, false, false, false, false]) (cs := [(IntKind.u64.wrap ↑(BitVec.ofInt IntKind.u64.bits a &&& BitVec.ofInt IntKind.u64.bits 7).toNat != 1, false), (IntKind.u64.wrap ↑(BitVec.ofInt IntKind.u64.bits a &&& BitVec.ofInt IntKind.u64.bits 7).toNat != 1, false), (IntKind.u64.wrap ↑(BitVec.ofInt IntKind.u64.bits a &&& BitVec.ofInt IntKind.u64.bits 7).toNat != 1, false), (IntKind.u64.wrap ↑(BitVec.ofInt IntKind.u64.bits a &&& BitVec.ofInt IntKind.u64.bits 7).toNat != 1, false), (decide (a.fdiv (2 ^ min (Int.toNat 3) IntKind.u64.bits) > 1114111), false), (decide (a.fdiv (2 ^ min (Int.toNat 3) IntKind.u64.bits) > 1114111), false), (decide (a.fdiv (2 ^ min (Int.toNat 3) IntKind.u64.bits) > 1114111), false), (decide (a.fdiv (2 ^ min (Int.toNat 3) IntKind.u64.bits) > 1114111), false), (decide (a.fdiv (2 ^ min (Int.toNat 3) IntKind.u64.bits) > 1114111), false), (decide (a.fdiv (2 ^ min (Int.toNat 3) IntKind.u64.bits) > 1114111), false), (!codeB (IntKind.i64.wrap (a.fdiv (2 ^ min (Int.toNat 3) IntKind.u64.bits))), false)]) rfl (by kernel_rfl) (Cons.cons h0 (Cons.cons h0 (Cons.cons h0 (Cons.cons h0 (Cons.cons h1 (Cons.cons h1 (Cons.cons h1 (Cons.cons h1 (Cons.cons h1 (Cons.cons h1 (Cons.cons h2 Cons.nil))))))))))) (fun _ => rfl)

def low3 (a : Int) : Int := IntKind.u64.wrap ↑(BitVec.ofInt IntKind.u64.bits a &&& BitVec.ofInt IntKind.u64.bits 7).toNat
def sh3 (a : Int) : Int := a.fdiv (2 ^ min (Int.toNat 3) IntKind.u64.bits)
def fixBad (a : Int) : Bool := decide (a < -1152921504606846976) || decide (a ≥ 1152921504606846976)
def fixW (a : Int) : Int := IntKind.u64.wrap (IntKind.u64.wrap a * 2 ^ min (Int.toNat 3) IntKind.u64.bits)
def charW (a : Int) : Int := Int.ofNat ((BitVec.ofInt IntKind.u64.bits (IntKind.u64.wrap (IntKind.u64.wrap a * 2 ^ min (Int.toNat 3) IntKind.u64.bits)) ||| BitVec.ofInt IntKind.u64.bits 1).toNat % ((2 : Int) ^ IntKind.u64.bits).natAbs)
def badP (a : Int) : Bool := decide (a < 0) || !rightB (IntKind.u64.wrap a)
def badR (a : Int) : Bool := !codeB (IntKind.i64.wrap a)
def chP (a : Int) : Bool := (low3 a == 1) && rightB (sh3 a)
def chR (a : Int) : Bool := !(low3 a != 1) && (!(decide (sh3 a > 1114111)) && !(!codeB (IntKind.i64.wrap (sh3 a))))
/-- A word and an error. -/
def we (bad : Bool) (w : Int) : AV := .tup [.v (.int .u64 (bif bad then 0 else w)), .v (.int .i64 (bif bad then 3 else 0))]
def fixV (a : Int) : AV := .tup [.v (.int .i64 (bif low3 a != 0 then 0 else (IntKind.i64.wrap a).fdiv (2 ^ min (Int.toNat 3) IntKind.i64.bits))), .v (.bool (!(low3 a != 0)))]
def chV (is : Bool) (a : Int) : AV := .tup [.v (.int .i32 (bif is then IntKind.i32.wrap (sh3 a) else 0)), .v (.bool is)]

theorem c7 (a : Int) (S : AS) : (lower cfg1 6).call 7 [.v (.int .i64 a)] S = some (we (fixBad a) (fixW a), S) := by
  unfold fixBad
  cases h0 : decide (a < -1152921504606846976) with
  | true => exact c7_1 a S h0
  | false => cases h1 : decide (a ≥ 1152921504606846976) with
    | true => exact c7_2 a S h0 h1
    | false => exact c7_3 a S h0 h1
theorem c8 (a : Int) (S : AS) : (lower cfg1 6).call 8 [.v (.int .i64 a)] S = some (we (fixBad a) (fixW a), S) := by
  unfold fixBad
  cases h0 : decide (a < -1152921504606846976) with
  | true => exact c8_1 a S h0
  | false => cases h1 : decide (a ≥ 1152921504606846976) with
    | true => exact c8_2 a S h0 h1
    | false => exact c8_3 a S h0 h1
theorem c9 (a : Int) (S : AS) : (lower cfg1 6).call 9 [.v (.int .i32 a)] S = some (we (badP a) (charW a), S) := by
  unfold badP
  cases h0 : decide (a < 0) with
  | true => exact c9_1 a S h0
  | false => cases h1 : !rightB (IntKind.u64.wrap a) with
    | true => exact c9_2 a S h0 h1
    | false => exact c9_3 a S h0 h1
theorem c10 (a : Int) (S : AS) : (lower cfg1 6).call 10 [.v (.int .i32 a)] S = some (we (badR a) (charW a), S) := by
  unfold badR
  cases h0 : !codeB (IntKind.i64.wrap a) with
  | true => exact c10_1 a S h0
  | false => exact c10_2 a S h0
theorem c11 (a : Int) (S : AS) : (lower cfg1 6).call 11 [.v (.int .u64 a)] S = some (fixV a, S) := by
  unfold fixV low3
  cases h0 : IntKind.u64.wrap ↑(BitVec.ofInt IntKind.u64.bits a &&& BitVec.ofInt IntKind.u64.bits 7).toNat != 0 with
  | true => exact c11_1 a S h0
  | false => exact c11_2 a S h0
theorem c12 (a : Int) (S : AS) : (lower cfg1 6).call 12 [.v (.int .u64 a)] S = some (fixV a, S) := by
  unfold fixV low3
  cases h0 : IntKind.u64.wrap ↑(BitVec.ofInt IntKind.u64.bits a &&& BitVec.ofInt IntKind.u64.bits 7).toNat != 0 with
  | true => exact c12_1 a S h0
  | false => exact c12_2 a S h0
theorem c13 (a : Int) (S : AS) : (lower cfg1 6).call 13 [.v (.int .u64 a)] S = some (chV (chP a) a, S) := by
  unfold chP low3 sh3
  cases h0 : IntKind.u64.wrap ↑(BitVec.ofInt IntKind.u64.bits a &&& BitVec.ofInt IntKind.u64.bits 7).toNat == 1 with
  | false => exact c13_3 a S h0
  | true => cases h1 : rightB (a.fdiv (2 ^ min (Int.toNat 3) IntKind.u64.bits)) with
    | true => exact c13_1 a S h0 h1
    | false => exact c13_2 a S h0 h1
theorem c14 (a : Int) (S : AS) : (lower cfg1 6).call 14 [.v (.int .u64 a)] S = some (chV (chR a) a, S) := by
  unfold chR low3 sh3
  cases h0 : IntKind.u64.wrap ↑(BitVec.ofInt IntKind.u64.bits a &&& BitVec.ofInt IntKind.u64.bits 7).toNat != 1 with
  | true => exact c14_1 a S h0
  | false => cases h1 : decide (a.fdiv (2 ^ min (Int.toNat 3) IntKind.u64.bits) > 1114111) with
    | true => exact c14_2 a S h0 h1
    | false => cases h2 : !codeB (IntKind.i64.wrap (a.fdiv (2 ^ min (Int.toNat 3) IntKind.u64.bits))) with
      | true => exact c14_3 a S h0 h1 h2
      | false => exact c14_4 a S h0 h1 h2

/-- awake(), where nothing is in the store yet. -/
def x17 : Con := fun args S =>
  match args, S.objs, S.ends with
  | [], [], [] => some (.v (.bool true), S)
  | _, _, _ => none
theorem c17 (lo tl : Nat) : (lower cfg1 16).call 17 [] { objs := [], ends := [], low := lo, tlow := tl } = some (.v (.bool true), { objs := [], ends := [], low := lo, tlow := tl }) := by kernel_rfl
theorem x17_does : Does cfg1 (17, x17) := by
  refine ⟨16, fun args S q hq => ?_⟩
  obtain ⟨ob, en, lo, tl⟩ := S
  simp only [x17] at hq
  split at hq
  · rename_i h1 h2
    cases hq
    exact c17 lo tl
  · cases hq

def tab2 : List (Nat × Con) := [(7, x1 .i64 fun a => we (fixBad a) (fixW a)), (8, x1 .i64 fun a => we (fixBad a) (fixW a)), (9, x1 .i32 fun a => we (badP a) (charW a)), (10, x1 .i32 fun a => we (badR a) (charW a)),
  (11, x1 .u64 fixV), (12, x1 .u64 fixV), (13, x1 .u64 fun a => chV (chP a) a), (14, x1 .u64 fun a => chV (chR a) a), (15, x1 .u64 fun a => .v (.bool (low3 a == 3))), (16, x1 .u64 fun a => .v (.bool (low3 a == 3))), (17, x17)]
noncomputable def cfg2 : Cfg := { P := Go.Proofs.Try.prog, H := hint, X := xlook tab2 }
theorem x2ok : XOK cfg2 := XOK.table (C0 := cfg1) (t := tab2) rfl names x1ok mixed rfl (by
  simp only [tab2, List.forall_mem_cons]
  exact ⟨x1_does c7, x1_does c8, x1_does c9, x1_does c10, x1_does c11, x1_does c12, x1_does c13, x1_does c14, x1_does c15_1, x1_does c16_1, x17_does, fun _ h => by cases h⟩)

end Go.Proofs.Ytlaiakplkomofaa
