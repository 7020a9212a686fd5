/- A sampling port: lives. -/
import Derived.Test.YtmcelldklmjlkaaDoorSampF
import Derived.Test.YtmcelldklmjlkaaDoorSampE
import Derived.Test.YtmcelldklmjlkaaDoorSampQ
namespace Go.Proofs.YtmcelldklmjlkaaDoor
open Go.RowKit

def z0 : SP := SP.new 1 3
def z1 : SP := (z0.wr [7] 5).1
def z2 : SP := (z1.all true 5 20).1
def z3 : SP := z2.rd.1
def z4 : SP := (z3.all false 8 20).1
def z5 : SP := z4.rd.1
theorem e1 : (z0.wr [7] 5).2 = 0 := by decide +kernel
theorem e2 : (z3.all false 8 20).2.1.l = [7] ∧ (z3.all false 8 20).2.1.q = 1 ∧ (z3.all false 8 20).2.1.t = 5 ∧ (z3.all false 8 20).2.1.h = true ∧ (z3.all false 8 20).2.1.v = true ∧ (z3.all false 8 20).2.2 = true := by decide +kernel
theorem e3 : (z5.all false 9 20).2.1.h = true ∧ (z5.all false 9 20).2.1.v = false ∧ (z5.all false 9 20).2.2 = true := by decide +kernel
theorem pwords1 : pwords 1 = 1 := by decide
theorem lives_pure : ∃ q0 q1 q2 q3 q4 q5 : SP, q0 = SP.new 1 3 ∧ q1 = (q0.wr [7] 5).1 ∧ q2 = (q1.all true 5 20).1 ∧ q3 = q2.rd.1 ∧ q4 = (q3.all false 8 20).1 ∧ q5 = q4.rd.1 ∧ (q0.wr [7] 5).2 = 0 ∧
    ((q3.all false 8 20).2.1.l = [7] ∧ (q3.all false 8 20).2.1.q = 1 ∧ (q3.all false 8 20).2.1.t = 5 ∧ (q3.all false 8 20).2.1.h = true ∧ (q3.all false 8 20).2.1.v = true ∧ (q3.all false 8 20).2.2 = true) ∧
    ((q5.all false 9 20).2.1.h = true ∧ (q5.all false 9 20).2.1.v = false ∧ (q5.all false 9 20).2.2 = true) :=
  ⟨z0, z1, z2, z3, z4, z5, rfl, rfl, rfl, rfl, rfl, rfl, e1, e2, e3⟩
end Go.Proofs.YtmcelldklmjlkaaDoor
