/- The pool's functions, each by a contract: what it answers, and what the pool's block holds behind it. -/
import Derived.Test.YtjmhdkcnllnekaaKit
namespace Go.Proofs.Ytjmhdkcnllnekaa
open Go.RowKit

theorem Try.info3 : (Try.prog.info? 3).map (fun i => (i.zero, i.size, i.bytes)) = some (some (.int .i64 0), 1, 8) := by kernel_rfl

structure PS where
  n : Nat
  tk : Nat → Bool
  ow : Nat → Int
  tu : Nat → Int

structure PoolAt (w : World) (b : Nat) (p : PS) : Prop where
  le : p.n ≤ 64
  n : w.cell? ⟨b, 0, none⟩ = some (.int .i64 (p.n : Int))
  tk : ∀ i, i < 64 → w.cell? ⟨b, 1 + i * 2, none⟩ = some (.bool (p.tk i))
  ow : ∀ i, i < 64 → w.cell? ⟨b, 1 + i * 2 + 1, none⟩ = some (.int .i64 (p.ow i))
  tu : ∀ i, i < 64 → w.cell? ⟨b, 129 + i, none⟩ = some (.int .i64 (p.tu i))
  fr : ∀ o, w.frozen? ⟨b, o, none⟩ = false

theorem PoolAt.keep {w w' : World} {b : Nat} {p : PS} (h : PoolAt w b p) (hk : w'.heap[b]? = w.heap[b]?) : PoolAt w' b p := by
  have hc : ∀ o, w'.cell? ⟨b, o, none⟩ = w.cell? ⟨b, o, none⟩ := fun o => World.cell?_of_block (a := ⟨b, o, none⟩) hk
  have hf : ∀ o, w'.frozen? ⟨b, o, none⟩ = w.frozen? ⟨b, o, none⟩ := fun o => World.frozen?_of_block (a := ⟨b, o, none⟩) hk
  exact ⟨h.le, (hc _).trans h.n, fun i hi => (hc _).trans (h.tk i hi), fun i hi => (hc _).trans (h.ow i hi), fun i hi => (hc _).trans (h.tu i hi), fun o => (hf _).trans (h.fr o)⟩
theorem PoolAt.lt {w : World} {b : Nat} {p : PS} (h : PoolAt w b p) : b < w.heap.size := World.block_lt_of_cell? _ _ h.n
theorem PoolAt.below {w w' : World} {b B : Nat} {p : PS} (h : PoolAt w b p) (hb : Below B w w') (hB : b < B) : PoolAt w' b p := h.keep (hb.block b hB)

def findTo (p : PS) (t : Bool) (o : Int) (k : Nat) : List Nat := (List.range k).filter fun i => p.tk i == t && p.ow i == o
def ints (l : List Nat) : List Value := l.map fun i : Nat => Value.int .i64 (i : Int)
theorem findTo_succ (p : PS) (t : Bool) (o : Int) (k : Nat) : findTo p t o (k + 1) = findTo p t o k ++ if (p.tk k == t && p.ow k == o) = true then [k] else [] := by
  unfold findTo; rw [List.range_succ, List.filter_append, List.filter_cons]; simp
theorem findTo_le (p : PS) (t : Bool) (o : Int) (k : Nat) : (findTo p t o k).length ≤ k := by
  unfold findTo; exact Nat.le_trans (List.length_filter_le _ _) (by simp)
theorem findTo_lt (p : PS) (t : Bool) (o : Int) (k : Nat) : ∀ i ∈ findTo p t o k, i < k := by
  unfold findTo; intro i hi; simp at hi; exact hi.1
theorem ints_length (l : List Nat) : (ints l).length = l.length := by simp [ints]

theorem fields56 : (Try.prog.fieldsOf 56).toList = [{ name := "taken", type := 4, offset := 0, embedded := false, tag := "", pkgPath := "empennage/pool", byteOffset := 0 }, { name := "owner", type := 3, offset := 1, embedded := false, tag := "", pkgPath := "empennage/pool", byteOffset := 8 }] := by kernel_rfl
theorem eq56 (a c : Bool) (x y : Int) (w : World) : (binOp .eql 56 (.agg #[.bool a, .int .i64 x]) (.agg #[.bool c, .int .i64 y])).run Try.prog w = .ok (.bool (a == c && x == y)) w := by
  rw [run_eql_struct, run_equalIn_struct _ _ _ _ _ (by kernel_rfl) (by kernel_rfl), fields56]
  by_cases h : x = y <;> cases a <;> cases c <;> simp [Op.eqFields, go_sem, h]
theorem neq56 (a c : Bool) (x y : Int) (w : World) : (binOp .neq 56 (.agg #[.bool a, .int .i64 x]) (.agg #[.bool c, .int .i64 y])).run Try.prog w = .ok (.bool (!(a == c && x == y))) w := by
  rw [run_neq_struct, run_equalIn_struct _ _ _ _ _ (by kernel_rfl) (by kernel_rfl), fields56]
  by_cases h : x = y <;> cases a <;> cases c <;> simp [Op.eqFields, go_sem, h]
attribute [local go_sem ↓] eq56 neq56

/-! ### Reading -/
theorem len_any (b : Nat) (p : PS) (w : World) (h : PoolAt w b p) :
    Calls Try.prog 16 #[.pointer (some ⟨b, 0, none⟩)] w fun e w' => e = .returned (.int .i64 p.n) ∧ w = w' := by
  have h0 := h.n
  go_enter Try.func16, Try.ntmps16
  go_wp2
  go_ret
  exact ⟨rfl, rfl⟩
theorem len_nil (w : World) :
    Calls Try.prog 16 #[.pointer none] w fun e w' => e = .returned (.int .i64 0) ∧ w = w' := by
  go_enter Try.func16, Try.ntmps16
  go_wp2
  go_ret
  exact ⟨rfl, rfl⟩
theorem is_yes (b : Nat) (p : PS) (i : Nat) (w : World) (h : PoolAt w b p) (hi : i < p.n) :
    Calls Try.prog 29 #[.pointer (some ⟨b, 0, none⟩), .int .i64 i] w fun e w' => e = .returned (.bool true) ∧ w = w' := by
  have h0 := h.n
  go_enter Try.func29, Try.ntmps29
  go_wp2
  go_ret
  exact ⟨by simp, rfl⟩
theorem is_no (b : Nat) (p : PS) (i : Int) (w : World) (h : PoolAt w b p) (hi : i < 0 ∨ p.n ≤ i) :
    Calls Try.prog 29 #[.pointer (some ⟨b, 0, none⟩), .int .i64 i] w fun e w' => e = .returned (.bool false) ∧ w = w' := by
  have h0 := h.n
  by_cases hi0 : 0 ≤ i
  · have hi1 : (p.n : Int) ≤ i := by omega
    go_enter Try.func29, Try.ntmps29
    go_wp2
    go_ret
    exact ⟨by simp; omega, rfl⟩
  · have hi' : decide (0 ≤ i) = false := by simpa using hi0
    go_enter Try.func29, Try.ntmps29
    go_wp2
    go_ret
    exact ⟨rfl, rfl⟩
theorem is_nil (i : Int) (w : World) :
    Calls Try.prog 29 #[.pointer none, .int .i64 i] w fun e w' => e = .returned (.bool false) ∧ w = w' := by
  go_enter Try.func29, Try.ntmps29
  go_wp2
  go_ret
  exact ⟨rfl, rfl⟩
theorem turn_in (b : Nat) (p : PS) (i : Nat) (w : World) (h : PoolAt w b p) (hi : i < p.n) :
    Calls Try.prog 13 #[.pointer (some ⟨b, 0, none⟩), .int .i64 i] w fun e w' => e = .returned (.int .i64 (p.tu i)) ∧ w = w' := by
  have hl := h.le
  have h0 := h.tu i (by omega)
  have HA := Lib.hid (is_yes b p i w h hi)
  clear h
  go_enter Try.func13, Try.ntmps13
  go_wp2_with (go_at_call 29; refine (HA.out).mono ?_; rintro e w' ⟨rfl, rfl⟩)
  go_ret
  exact ⟨rfl, rfl⟩
theorem turn_out (b : Nat) (p : PS) (i : Int) (w : World) (h : PoolAt w b p) (hi : i < 0 ∨ p.n ≤ i) :
    Calls Try.prog 13 #[.pointer (some ⟨b, 0, none⟩), .int .i64 i] w fun e w' => e = .returned (.int .i64 0) ∧ w = w' := by
  have HA := Lib.hid (is_no b p i w h hi)
  clear h hi
  go_enter Try.func13, Try.ntmps13
  go_wp2_with (go_at_call 29; refine (HA.out).mono ?_; rintro e w' ⟨rfl, rfl⟩)
  go_ret
  exact ⟨rfl, rfl⟩
theorem turn_nil (i : Int) (w : World) :
    Calls Try.prog 13 #[.pointer none, .int .i64 i] w fun e w' => e = .returned (.int .i64 0) ∧ w = w' := by
  go_enter Try.func13, Try.ntmps13
  go_wp2_with (go_at_call 29; refine (is_nil _ _).mono ?_; rintro e w' ⟨rfl, rfl⟩)
  go_ret
  exact ⟨rfl, rfl⟩
theorem owner_in (b : Nat) (p : PS) (i : Nat) (w : World) (h : PoolAt w b p) (hi : i < p.n) :
    Calls Try.prog 18 #[.pointer (some ⟨b, 0, none⟩), .int .i64 i] w fun e w' => e = .returned (.tuple #[.int .i64 (p.ow i), .bool (p.tk i)]) ∧ ∃ n, w' = w.drewN n := by
  have hl := h.le
  have h0 := h.tk i (by omega)
  have h1 := h.ow i (by omega)
  have HA := Lib.hid (is_yes b p i w h hi)
  clear h
  go_enter Try.func18, Try.ntmps18
  go_wp2_with (go_at_call 29; refine (HA.out).mono ?_; rintro e w' ⟨rfl, rfl⟩)
  go_quiet (fail)
  go_wp2
  go_ret2
  exact ⟨rfl, _, rfl⟩
theorem owner_nil (i : Int) (w : World) :
    Calls Try.prog 18 #[.pointer none, .int .i64 i] w fun e w' => e = .returned (.tuple #[.int .i64 0, .bool false]) ∧ ∃ n, w' = w.drewN n := by
  go_enter Try.func18, Try.ntmps18
  go_wp2_with (go_at_call 29; refine (is_nil _ _).mono ?_; rintro e w' ⟨rfl, rfl⟩)
  go_ret2
  exact ⟨rfl, 0, rfl⟩

set_option maxHeartbeats 800000 in
theorem find_any (b : Nat) (p : PS) (t : Bool) (o : Int) (w : World) (h : PoolAt w b p) :
    Calls Try.prog 28 #[.pointer (some ⟨b, 0, none⟩), .agg #[.bool t, .int .i64 o]] w fun e w' => ∃ v, e = .returned v ∧ w'.ownsRow (w.heap.size + 1) 3 1 v (findTo p t o p.n).length (ints (findTo p t o p.n)) ∧ Below w.heap.size w w' := by
  have hl := h.le
  have hlt := h.lt
  have hH := Lib.hid h
  clear h
  go_enter Try.func28, Try.ntmps28
  go_wp2_with fail
  refine (len_any b p _ (hH.out.below (B := w.heap.size) ((Below.refl _ _).alloc (Nat.le_refl _) _) hlt)).mono ?_
  rintro e w' ⟨rfl, rfl⟩
  go_wp2
  go_loopw [5, 9] (fun l i wr => ∃ k : Nat, k ≤ p.n ∧ i = .int .i64 k ∧ wr.ownsRow (w.heap.size + 1) 3 1 l (findTo p t o k).length (ints (findTo p t o k)) ∧ Below w.heap.size w wr ∧ w.heap.size + 1 ≤ wr.heap.size ∧ wr.cell? ⟨w.heap.size, 0, none⟩ = some (.bool t) ∧ wr.cell? ⟨w.heap.size, 1, none⟩ = some (.int .i64 o)) (fun _ i _ => p.n - (intOf i).toNat)
  case atStart => exact ⟨0, Nat.zero_le _, rfl, ⟨by simp [findTo, ints], Or.inl ⟨rfl, by simp [findTo]⟩⟩, (Below.refl _ _).alloc (Nat.le_refl _) _, by simp, by simp [World.cell?_alloc_at], by simp [World.cell?_alloc_at]⟩
  case round =>
    obtain ⟨k, hk, rfl, hown, hbel, hsz, hb0, hb1⟩ := hrel
    have hP := hH.out.below hbel hlt
    by_cases hlt : k < p.n
    · have c1 := hP.tk k (by omega)
      have c2 := hP.ow k (by omega)
      have k64 : (k : Int) < 64 := by omega
      have hB := Lib.hid hbel
      have hsuc := Lib.hid (findTo_succ p t o k)
      have hle := findTo_le p t o k
      have hO := Lib.hid hown
      clear hP hbel hown
      by_cases hm : (p.tk k == t && p.ow k == o) = true
      · go_wp2
        go_quiet (fail)
        go_wp2_with (at_builtin; go_loud (refine app_one (W := wr.drewN nq) rfl _ _ 40 rfl (w.heap.size + 1) 3 (.int .i64 0) 1 8 Try.underlying40 Try.info3 rfl (by decide) u5 _ _ rfl hO.out #[.int .i64 (k : Int)] rfl rfl ?_ ?_ ?_ ?_ ?_))
        · simp [Value.oneCell']
        · omega
        · omega
        · exact hsz
        intro v' w1 hown' hbel' _
        have hB1 := Lib.hid ((hB.out.trans (below_drewN' wr nq)).trans (hbel'.mono (by omega)))
        have hb0' := (hbel'.cell (p := ⟨w.heap.size, 0, none⟩) (by simp)).trans hb0
        have hb1' := (hbel'.cell (p := ⟨w.heap.size, 1, none⟩) (by simp)).trans hb1
        have hsz' : w.heap.size + 1 ≤ w1.heap.size := Nat.le_trans hsz hbel'.size
        have hO' := Lib.hid hown'
        clear hO hown' hb0 hb1 hbel'
        go_wp2
        go_roundw
        case rel =>
          refine ⟨k + 1, by omega, by go_num, ?_, hB1.out, hsz', hb0', hb1'⟩
          rw [hsuc.out, if_pos hm]
          simpa [ints] using hO'.out
        case measure => simp [intOf]; omega
      · go_wp2
        go_quiet (fail)
        go_wp2
        go_roundw
        case rel =>
          refine ⟨k + 1, by omega, by go_num, ?_, hB.out.trans (below_drewN' wr nq), hsz, hb0, hb1⟩
          rw [hsuc.out, if_neg hm, List.append_nil]
          exact hO.out
        case measure => simp [intOf]; omega
    · obtain rfl : k = p.n := by omega
      have hO := Lib.hid hown
      have hB := Lib.hid hbel
      clear hown hbel hP
      go_wp2
      go_ret
      exact ⟨_, rfl, hO.out, hB.out⟩
theorem find_nil (t : Bool) (o : Int) (w : World) :
    Calls Try.prog 28 #[.pointer none, .agg #[.bool t, .int .i64 o]] w fun e w' => e = .returned (.slice none 0 0) ∧ Below w.heap.size w w' := by
  go_enter Try.func28, Try.ntmps28
  go_wp2_with (go_at_call 16; refine (len_nil _).mono ?_; rintro e w' ⟨rfl, rfl⟩)
  refine wp_loop_rounds 1 ?_
  rw [rounds_succ]
  go_wp2
  go_ret
  exact ⟨rfl, (Below.refl _ _).alloc (Nat.le_refl _) _⟩

end Go.Proofs.Ytjmhdkcnllnekaa
