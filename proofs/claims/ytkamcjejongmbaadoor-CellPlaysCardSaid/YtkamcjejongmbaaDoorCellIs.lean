/- errors.Is between two of the program's errors. -/
import Derived.Test.YtkamcjejongmbaaDoorCellText
namespace Go.Proofs.YtkamcjejongmbaaDoor
open Go.RowKit Go.Extern.Stop Go.Stop Go.Extern

theorem isErrno (v : Value) (w : World) : (ReflectliteType.typeOf #[.iface 24 v]).run Tryd.prog w = .ok (.iface 80 (.agg #[.pointer (some ⟨4, 24, none⟩)])) w := by kernel_rfl
/-- The model's entry for Comparable. -/
def compEntry : Array Value → Sem Value := Extern.ReflectliteType.method fun t => do Extern.Rtype.noPackHeld "Comparable" t; pure (.bool (← typeInfo t).comparable)
theorem isComparable (w : World) : (compEntry #[.agg #[.pointer (some ⟨4, 24, none⟩)]]).run Tryd.prog w = .ok (.bool true) w := by kernel_rfl
theorem methodComparable (v : Value) (w : World) : (Go.method 251 80 v "Comparable").run Tryd.prog w = .ok (82, v) w := by kernel_rfl
theorem noIs (v : Value) (xT : TypeId) (w : World) : (Instr.typeAssert (.iface 24 v) xT 82 true).run Tryd.prog w = .ok (.tuple #[.nilIface, .bool false]) w := run_typeAssert_lacksB Tryd.underlying82 (by kernel_rfl) (by kernel_rfl) v xT w
theorem noUnwrap (v : Value) (xT : TypeId) (w : World) : (Instr.typeAssert (.iface 24 v) xT 85 true).run Tryd.prog w = .ok (.tuple #[.nilIface, .bool false]) w := run_typeAssert_lacksB Tryd.underlying85 (by kernel_rfl) (by kernel_rfl) v xT w
theorem noUnwraps (v : Value) (xT : TypeId) (w : World) : (Instr.typeAssert (.iface 24 v) xT 87 true).run Tryd.prog w = .ok (.tuple #[.nilIface, .bool false]) w := run_typeAssert_lacksB Tryd.underlying87 (by kernel_rfl) (by kernel_rfl) v xT w
theorem eqIn (d : Nat) (a b : Int) (w : World) : (Op.equalIn (d + 2) 58 (.iface 24 (.int .i64 a)) (.iface 24 (.int .i64 b))).run Tryd.prog w = .ok (a == b) w := by
  obtain ⟨i, hi, hc⟩ : ∃ i, Tryd.prog.info? 24 = some i ∧ i.comparable = true := by
    have h : (Tryd.prog.info? 24).map (·.comparable) = some true := by kernel_rfl
    obtain ⟨i, hi, hc⟩ := Option.map_eq_some_iff.1 h
    exact ⟨i, hi, hc⟩
  simp [Op.equalIn, run_underlying Tryd.underlying58, run_underlying Tryd.underlying24, typeInfo, hi, hc]
theorem eqErr (a b : Int) (w : World) : (binOp .eql 58 (.iface 24 (.int .i64 a)) (.iface 24 (.int .i64 b))).run Tryd.prog w = .ok (.bool (a == b)) w := by
  simp only [binOp]
  simp [Op.equal, Op.maxDepth, eqIn 9998 a b w]
set_option maxRecDepth 100000 in
set_option maxHeartbeats 3200000 in
theorem is_err (k : Int) (w : World) : Calls Tryd.prog 30 #[.iface 24 (.int .i64 k), .iface 24 (.int .i64 0)] w fun e w' => e = .returned (.bool (k == 0)) ∧ w = w' := by
  have h38 := @run_callFunc_extern Tryd.prog 38 _ ReflectliteType.typeOf Tryd.func38 (by kernel_rfl) (by kernel_rfl) (by kernel_rfl) (by kernel_rfl)
  have h82 := @run_callFunc_extern Tryd.prog 82 _ compEntry Tryd.func82 (by kernel_rfl) (by kernel_rfl) (by kernel_rfl) (by kernel_rfl)
  have a1 := isErrno
  have a2 := isComparable
  have a3 := methodComparable
  have a4 := noIs
  have a5 := noUnwrap
  have a6 := noUnwraps
  have a7 := fun W => eqErr k 0 W
  by_cases hk : k = 0
  · subst hk
    go_enter Tryd.func30, Tryd.ntmps30
    go_wp2
    refine wp_loop_rounds 1 ?_
    rw [rounds_succ]
    go_wp2
    go_ret
    exact ⟨rfl, rfl⟩
  · have hq : (k == 0) = false := by simp [hk]
    rw [hq] at a7 ⊢
    clear hk
    go_enter Tryd.func30, Tryd.ntmps30
    go_wp2
    refine wp_loop_rounds 1 ?_
    rw [rounds_succ]
    go_wp2
    go_ret
    exact ⟨rfl, rfl⟩
end Go.Proofs.YtkamcjejongmbaaDoor
