/- The reference: Reset. -/
import Derived.Test.YtkamcjejongmbaaDoorCellU
import Derived.Test.YtkamcjejongmbaaDoorCellResets
namespace Go.Proofs.YtkamcjejongmbaaDoor
open Go.RowKit

theorem app_empty {W : World} {ops : Array Oper} {rest : List Oper} {o : Oper} {a : Act} {Q : Exit → Act → World → Prop} (hgd : o.guard = none) (s x : Operand)
    (ho : o.op = .call { callee := .builtin .append, args := #[s, x], argTypes := #[33, 33] }) (hs : a.eval s = .slice none 0 0) (A : Option Addr) (c : Nat) (hx : a.eval x = .slice A 0 c)
    (h : wpList Tryd.prog ops Q rest (a.put o.dst (.slice none 0 0)) W) : wpList Tryd.prog ops Q (o :: rest) a W := by
  refine wpList_plain hgd fun K hK => ?_
  have hrun : ∀ ty, (Builtin.append_ #[33, 33] ty #[.slice none 0 0, .slice A 0 c]).run Tryd.prog W = .ok (.slice none 0 0) W := fun ty => by cases A <;> kernel_rfl
  unfold Oper.wp
  simp [execOp, ho, resolve, invoke, builtin, hs, hx, hrun, Result.andThen]
  exact hK _ _ h
set_option maxRecDepth 100000 in
set_option maxHeartbeats 1600000 in
theorem rreset_bad {w : World} {A : Option Addr} {c n : Nat} {N : Int} (hn : n ≤ 4096) (a k : Int) (hk : -9223372036854775808 ≤ k ∧ k ≤ 9223372036854775807) (ha : -9223372036854775808 ≤ a ∧ a ≤ 9223372036854775807) (hw : k < 0 ∨ a < 0 ∨ (n : Int) < a + k) :
    Calls Tryd.prog 28 #[.agg #[.slice A n c, .int .i64 N], .int .i64 a, .int .i64 k] w fun e w' => e = .returned (.tuple #[.agg #[.slice A n c, .int .i64 N], .int .i64 7]) ∧ Below w.heap.size w w' := by
  have HZ := Lib.hid (show Blk ((w.alloc (.cells #[.slice A n c, .int .i64 N] 45)).alloc (.cells #[.slice A n c, .int .i64 N] 45)) (w.heap.size + 1) 45 #[.slice A n c, .int .i64 N] from by
    have := Blk.new (w.alloc (.cells #[.slice A n c, .int .i64 N] 45)) 45 #[.slice A n c, .int .i64 N]; simpa using this)
  have HF := Lib.hid ((below_alloc (Nat.le_refl w.heap.size) (.cells #[.slice A n c, .int .i64 N] 45)).alloc (by simp) (.cells #[.slice A n c, .int .i64 N] 45))
  rcases (show k < 0 ∨ (0 ≤ k ∧ a < 0) ∨ (0 ≤ k ∧ 0 ≤ a ∧ (n : Int) < a) ∨ (0 ≤ k ∧ 0 ≤ a ∧ a ≤ (n : Int) ∧ (n : Int) - a < k) by omega) with h | ⟨h, h1⟩ | ⟨h, h1, h2⟩ | ⟨h, h1, h2, h3⟩
  all_goals
    have e1 : 0 ≤ a → a ≤ n → wrap64 ((n : Int) - a) = (n : Int) - a := fun _ _ => by unfold wrap64; omega
    try have e2 := e1 h1 h2
    clear hw e1
    go_enter Tryd.func28, Tryd.ntmps28
    go_wp2
    exact bodyPost_ret (res_c2 rfl _ rfl HZ.out Tryd.underlying45 rfl sizeM) rfl ⟨rfl, HF.out⟩
end Go.Proofs.YtkamcjejongmbaaDoor
