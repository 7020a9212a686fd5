/- errors.As at a fault, walked: the return code that it wraps. -/
import Derived.Test.YtkamcjejongmbaaDoorCellAs
namespace Go.Proofs.YtkamcjejongmbaaDoor
open Go.RowKit Go.Extern.Stop Go.Stop Go.Extern

theorem noAs (v : Value) (xT : TypeId) (w : World) : (Instr.typeAssert (.iface 56 v) xT 103 true).run Tryd.prog w = .ok (.tuple #[.nilIface, .bool false]) w := run_typeAssert_lacksB Tryd.underlying103 (by kernel_rfl) (by kernel_rfl) v xT w
theorem hasUnwrap (v : Value) (xT : TypeId) (w : World) : (Instr.typeAssert (.iface 56 v) xT 85 true).run Tryd.prog w = .ok (.tuple #[.iface 56 v, .bool true]) w := run_typeAssert_hasB Tryd.underlying85 (by kernel_rfl) v xT w
theorem methodUnwrap (h : Value) (w : World) : (Go.method 251 56 h "Unwrap").run Tryd.prog w = .ok (79, h) w := by kernel_rfl
theorem unwrap_any {w : World} {g : Nat} {i k : Int} (h : Blk w g 60 #[.int .i64 i, .iface 24 (.int .i64 k)]) :
    Calls Tryd.prog 79 #[.pointer (some ⟨g, 0, none⟩)] w fun e w' => e = .returned (.iface 24 (.int .i64 k)) ∧ w = w' := by
  have h1 : w.cell? ⟨g, 1, none⟩ = some (.iface 24 (.int .i64 k)) := (h.cell 1).trans rfl
  clear h
  go_enter Tryd.func79, Tryd.ntmps79
  go_wp2
  go_ret
  exact ⟨rfl, rfl⟩
set_option maxRecDepth 100000 in
set_option maxHeartbeats 4000000 in
theorem as_loop {w : World} {g t b : Nat} {i k : Int} {old : Value} (hg : Blk w g 60 #[.int .i64 i, .iface 24 (.int .i64 k)]) (hb : w.cell? ⟨b, 0, none⟩ = some (.pointer (some ⟨t, 0, none⟩))) (ht : w.cell? ⟨t, 0, none⟩ = some old) (hf : w.frozen? ⟨t, 0, none⟩ = false) :
    Calls Tryd.prog 46 #[.iface 56 (.pointer (some ⟨g, 0, none⟩)), .iface 78 (.pointer (some ⟨t, 0, none⟩)), .agg #[.pointer (some ⟨4, 78, none⟩), .pointer (some ⟨b, 0, none⟩), .int .u64 150], .iface 80 (.agg #[.pointer (some ⟨4, 24, none⟩)])] w
      fun e w' => e = .returned (.bool true) ∧ w' = ((w.alloc (.cells #[.pointer (some ⟨4, 78, none⟩), .pointer (some ⟨b, 0, none⟩), .int .u64 150] 93)).alloc (.cells #[.int .i64 k] 24)).setCell ⟨t, 0, none⟩ (.int .i64 k) := by
  have h38 := @run_callFunc_extern Tryd.prog 38 _ ReflectliteType.typeOf Tryd.func38 (by kernel_rfl) (by kernel_rfl) (by kernel_rfl) (by kernel_rfl)
  have h43 := @run_callFunc_extern Tryd.prog 43 _ (fun args => ReflectliteValue.unpack (args.getD 0 (.tuple #[]))) Tryd.func43 (by kernel_rfl) (by kernel_rfl) (by kernel_rfl) (by kernel_rfl)
  have h81 := @run_callFunc_extern Tryd.prog 81 _ (ReflectliteType.relation "AssignableTo" ReflectliteType.assignableTo) Tryd.func81 (by kernel_rfl) (by kernel_rfl) (by kernel_rfl) (by kernel_rfl)
  have h48 := @run_callFunc_extern Tryd.prog 48 _ (ReflectliteValue.method (ReflectliteValue.valueError "reflectlite.Value.Elem" 0) ReflectliteValue.elem) Tryd.func48 (by kernel_rfl) (by kernel_rfl) (by kernel_rfl) (by kernel_rfl)
  have h49 := @run_callFunc_extern Tryd.prog 49 _ ReflectliteValue.set Tryd.func49 (by kernel_rfl) (by kernel_rfl) (by kernel_rfl) (by kernel_rfl)
  have a1 := typeOfFault
  have a2 := typeOfErr
  have a3 := methodAssignableTo
  have a4 := assignFault
  have a5 := assignErr
  have a6 := noAs
  have a7 := hasUnwrap
  have a8 := methodUnwrap
  have a9 := valueOfErr
  have hbl : b < w.heap.size := World.block_lt_of_cell? _ _ hb
  have htl : t < w.heap.size := World.block_lt_of_cell? _ _ ht
  obtain ⟨W1, hW1⟩ : ∃ W1, W1 = w.alloc (.cells #[.pointer (some ⟨4, 78, none⟩), .pointer (some ⟨b, 0, none⟩), .int .u64 150] 93) := ⟨_, rfl⟩
  have b1 : W1.cell? ⟨b, 0, none⟩ = some (.pointer (some ⟨t, 0, none⟩)) := by rw [hW1, World.cell?_alloc_lt _ _ _ hbl]; exact hb
  have t1 : W1.cell? ⟨t, 0, none⟩ = some old := by rw [hW1, World.cell?_alloc_lt _ _ _ htl]; exact ht
  have f1 : W1.frozen? ⟨t, 0, none⟩ = false := by rw [hW1, World.frozen?_alloc_old _ _ _ (Nat.ne_of_lt htl)]; exact hf
  have htl1 : t < W1.heap.size := by rw [hW1]; simp; omega
  have a10 := elemV ⟨b, 0, none⟩ ⟨t, 0, none⟩ W1 b1
  have a11 := setErr ⟨t, 0, none⟩ ⟨W1.heap.size, 0, none⟩ k old (W1.alloc (.cells #[.int .i64 k] 24)) (by simp [World.cell?_alloc_at]) (by rw [World.cell?_alloc_lt _ _ _ htl1]; exact t1) (by rw [World.frozen?_alloc_old _ _ _ (Nat.ne_of_lt htl1)]; exact f1)
  have HU := Lib.hid (unwrap_any (w := W1) (by rw [hW1]; exact hg.alloc _))
  rw [show W1.heap.size = w.heap.size + 1 by rw [hW1]; simp] at a11
  rw [hW1] at a10 a11 HU
  clear b1 t1 f1 hb ht hf hg hbl htl htl1 hW1
  go_enter Tryd.func46, Tryd.ntmps46
  go_wp2
  refine wp_loop_rounds 2 ?_
  rw [rounds_succ]
  go_wp2_with (go_at_call 79; refine (HU.out).mono ?_; rintro e w' ⟨rfl, rfl⟩)
  rw [rounds_succ]
  go_wp2
  go_ret
  exact ⟨rfl, rfl⟩
set_option maxRecDepth 100000 in
set_option maxHeartbeats 4000000 in
theorem as_fault {w : World} {g t : Nat} {i k : Int} {old : Value} (hg : Blk w g 60 #[.int .i64 i, .iface 24 (.int .i64 k)]) (ht : w.cell? ⟨t, 0, none⟩ = some old) (hf : w.frozen? ⟨t, 0, none⟩ = false)
    (hE : w.cell? ⟨0, 0, none⟩ = some (.iface 80 (.agg #[.pointer (some ⟨4, 58, none⟩)]))) :
    Calls Tryd.prog 41 #[.iface 56 (.pointer (some ⟨g, 0, none⟩)), .iface 78 (.pointer (some ⟨t, 0, none⟩))] w fun e w' => e = .returned (.bool true) ∧ w'.cell? ⟨t, 0, none⟩ = some (.int .i64 k) ∧ Only (fun j => j = t) w w' := by
  have h43 := @run_callFunc_extern Tryd.prog 43 _ (fun args => ReflectliteValue.unpack (args.getD 0 (.tuple #[]))) Tryd.func43 (by kernel_rfl) (by kernel_rfl) (by kernel_rfl) (by kernel_rfl)
  have h44 := @run_callFunc_extern Tryd.prog 44 _ (ReflectliteValue.methodAny (ReflectliteValue.valueError "reflectlite.Value.Type" 0) (fun t _ _ _ => ReflectliteType.toType t)) Tryd.func44 (by kernel_rfl) (by kernel_rfl) (by kernel_rfl) (by kernel_rfl)
  have h45 := @run_callFunc_extern Tryd.prog 45 _ (ReflectliteValue.method (ReflectliteValue.valueError "reflectlite.Value.IsNil" 0) ReflectliteValue.isNil) Tryd.func45 (by kernel_rfl) (by kernel_rfl) (by kernel_rfl) (by kernel_rfl)
  have h75 := @run_callFunc_extern Tryd.prog 75 _ (ReflectliteType.abiMethod fun t => do pure (.int .u8 (← Rtype.kind t))) Tryd.func75 (by kernel_rfl) (by kernel_rfl) (by kernel_rfl) (by kernel_rfl)
  have h83 := @run_callFunc_extern Tryd.prog 83 _ (ReflectliteType.method ReflectliteType.elem) Tryd.func83 (by kernel_rfl) (by kernel_rfl) (by kernel_rfl) (by kernel_rfl)
  have h84 := @run_callFunc_extern Tryd.prog 84 _ (ReflectliteType.relation "Implements" ReflectliteType.implements_) Tryd.func84 (by kernel_rfl) (by kernel_rfl) (by kernel_rfl) (by kernel_rfl)
  have a1 := valueOfPtr
  have a2 := typePtr
  have a3 := methodKind
  have a4 := kindPtr
  have a5 := kindErr
  have a6 := methodElem
  have a7 := methodImplements
  have a8 := elemPtr
  have a9 := implErr
  have hel : 0 < w.heap.size := World.block_lt_of_cell? _ _ hE
  have htl : t < w.heap.size := World.block_lt_of_cell? _ _ ht
  obtain ⟨W2, hW2⟩ : ∃ W2, W2 = (w.alloc (.cells #[.pointer (some ⟨t, 0, none⟩)] 78)).alloc (.cells #[.pointer (some ⟨4, 78, none⟩), .pointer (some ⟨w.heap.size, 0, none⟩), .int .u64 150] 93) := ⟨_, rfl⟩
  have hb2 : Below w.heap.size w W2 := by rw [hW2]; exact (below_alloc (Nat.le_refl _) _).alloc (by simp) _
  have b2 : W2.cell? ⟨w.heap.size, 0, none⟩ = some (.pointer (some ⟨t, 0, none⟩)) := by rw [hW2, World.cell?_alloc_lt _ _ _ (by simp)]; exact World.cell?_alloc_at _ _ _ _ rfl
  have a10 := isNilPtr ⟨w.heap.size, 0, none⟩ ⟨t, 0, none⟩ W2 b2
  have e2 : W2.cell? ⟨0, 0, none⟩ = some (.iface 80 (.agg #[.pointer (some ⟨4, 58, none⟩)])) := (hb2.cell (p := ⟨0, 0, none⟩) hel).trans hE
  have t2 : W2.cell? ⟨t, 0, none⟩ = some old := (hb2.cell (p := ⟨t, 0, none⟩) htl).trans ht
  have f2 : W2.frozen? ⟨t, 0, none⟩ = false := (hb2.frozen (p := ⟨t, 0, none⟩) htl).trans hf
  have HL := Lib.hid (as_loop (w := W2) (hg.below hb2 hg.lt) b2 t2 f2)
  have HT := Lib.hid t2
  have HB := Lib.hid hb2
  have HTL := Lib.hid htl
  have hs2 : W2.heap.size = w.heap.size + 1 + 1 := by rw [hW2]; simp
  have HS := Lib.hid hs2
  rw [hW2] at a10 e2 HL
  have HW := Lib.hid hW2
  clear b2 t2 f2 hb2 hg ht hf hE hel htl hs2 hW2
  go_enter Tryd.func41, Tryd.ntmps41
  go_wp2_with (go_at_call 46; refine (HL.out).mono ?_; rintro e w' ⟨rfl, hw'⟩)
  go_ret
  clear hw'
  have hw3 : Below w.heap.size w ((W2.alloc (.cells #[.pointer (some ⟨4, 78, none⟩), .pointer (some ⟨w.heap.size, 0, none⟩), .int .u64 150] 93)).alloc (.cells #[.int .i64 k] 24)) :=
    (HB.out.alloc HB.out.size _).alloc (by have := HB.out.size; simp; omega) _
  have hc3 : ((W2.alloc (.cells #[.pointer (some ⟨4, 78, none⟩), .pointer (some ⟨w.heap.size, 0, none⟩), .int .u64 150] 93)).alloc (.cells #[.int .i64 k] 24)).cell? ⟨t, 0, none⟩ = some old := by
    have hl := HTL.out
    have hs := HS.out
    rw [World.cell?_alloc_lt _ _ _ (by simp; omega), World.cell?_alloc_lt _ _ _ (by show t < W2.heap.size; omega)]
    exact HT.out
  refine ⟨rfl, ?_, ?_⟩
  · rw [← HW.out]; exact World.cell?_setCell_same _ _ _ hc3
  · rw [← HW.out]; exact onl_set (S := fun j => j = t) (onl_below hw3) (p := ⟨t, 0, none⟩) (.inl rfl) _
end Go.Proofs.YtkamcjejongmbaaDoor
