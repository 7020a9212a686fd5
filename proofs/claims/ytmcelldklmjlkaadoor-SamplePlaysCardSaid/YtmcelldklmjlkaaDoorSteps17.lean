/- Steps that came in: opening them; early, words, kind. -/
import Derived.Test.YtmcelldklmjlkaaDoorSampleOdd
namespace Go.Proofs.YtmcelldklmjlkaaDoor
open Go.ChangeShapes Go.WideShapes Go.ChangeAt Go.RowKit Go.Deep

/-- Steps that came in: their cells. -/
structure StepsIn (w : World) (A : Option Addr) (n : Nat) (bs off : Nat) (K N : Nat → Int) (V : Nat → Value) (L : Nat → List Int) : Prop where
  at_ : A = some ⟨bs, off, none⟩ ∨ n = 0
  c0 : ∀ i, i < n → w.cell? ⟨bs, off + i * 3, none⟩ = some (.int .i64 (K i))
  c1 : ∀ i, i < n → w.cell? ⟨bs, off + i * 3 + 1, none⟩ = some (.int .i64 (N i))
  c2 : ∀ i, i < n → w.cell? ⟨bs, off + i * 3 + 2, none⟩ = some (V i)
  ci : ∀ i, i < n → IntsIn w (V i) (L i)
theorem StepsIn.below {w w' : World} {A : Option Addr} {n bs off : Nat} {K N : Nat → Int} {V : Nat → Value} {L : Nat → List Int} (h : StepsIn w A n bs off K N V L) (hb : Below w.heap.size w w') : StepsIn w' A n bs off K N V L :=
  ⟨h.at_, fun i hi => (hb.cell (World.block_lt_of_cell? _ _ (h.c0 i hi))).trans (h.c0 i hi), fun i hi => (hb.cell (World.block_lt_of_cell? _ _ (h.c1 i hi))).trans (h.c1 i hi), fun i hi => (hb.cell (World.block_lt_of_cell? _ _ (h.c2 i hi))).trans (h.c2 i hi), fun i hi => (h.ci i hi).below hb⟩
theorem StepsIn.cut {w : World} {A : Option Addr} {n bs off : Nat} {K N : Nat → Int} {V : Nat → Value} {L : Nat → List Int} (h : StepsIn w A n bs off K N V L) (m : Nat) (hm : m ≤ n) : StepsIn w A m bs off K N V L :=
  ⟨h.at_.imp id (fun e => by omega), fun i hi => h.c0 i (by omega), fun i hi => h.c1 i (by omega), fun i hi => h.c2 i (by omega), fun i hi => h.ci i (by omega)⟩
/-- One of them: its cells, and its words, at most 8. -/
theorem StepsIn.one {W : World} {A : Option Addr} {n bs off : Nat} {K N : Nat → Int} {V : Nat → Value} {L : Nat → List Int} (h : StepsIn W A n bs off K N V L) (k : Nat) (hk : k < n) :
    ∃ A' n' c' l8, n' ≤ c' ∧ l8.length ≤ 8 ∧ ∀ w', Below W.heap.size W w' → w'.cell? ⟨bs, off + k * 3, none⟩ = some (.int .i64 (K k)) ∧ w'.cell? ⟨bs, off + k * 3 + 1, none⟩ = some (.int .i64 (N k)) ∧ w'.cell? ⟨bs, off + k * 3 + 2, none⟩ = some (.slice A' n' c') ∧ IntsIn w' (.slice A' (min n' 8) c') l8 := by
  obtain ⟨A', c', hV⟩ := (h.ci k hk).form
  have hI := h.ci k hk
  rw [hV] at hI
  have hcl : (L k).length ≤ c' := by
    obtain ⟨_, _, e, h, _⟩ := hI
    injection e with _ _ e3
    omega
  obtain ⟨hI8, hl8⟩ := hI.take (min (L k).length 8) (by omega)
  refine ⟨A', (L k).length, c', (L k).take (min (L k).length 8), hcl, by omega, fun w' hb => ?_⟩
  have h' := h.below hb
  exact ⟨h'.c0 k hk, h'.c1 k hk, by rw [← hV]; exact h'.c2 k hk, hI8.below hb⟩
set_option maxRecDepth 100000 in
theorem open_steps {H : Type} {enc : TypeId × Value → H} {w : World} {base fuel len cap : Nat} {spare : Nat → Bool} {held : Bool} {A : Option Addr} {x : DataW H × List MemPlace}
    (h : DataW.trod enc Tryd.prog w base spare held fuel 41 (Value.cells (.slice A len cap)).toList = some x) : ∃ bs off K N V L, StepsIn w A len bs off K N V L ∧ len ≤ cap ∧ cap ≤ maxLen := by
  rcases open_slice Tryd.underlying41 h with ⟨hcs, _⟩ | ⟨a, l, c, m, n, D, Pl, hcs, hb, hl, hm, hmm, hx, hi⟩
  · simp [Value.cells] at hcs
    obtain ⟨rfl, rfl, rfl⟩ := hcs
    exact ⟨0, 0, fun _ => 0, fun _ => 0, fun _ => .bool false, fun _ => [], ⟨.inr rfl, by simp, by simp, by simp, by simp⟩, Nat.le_refl _, by simp⟩
  · simp [Value.cells] at hcs
    obtain ⟨rfl, rfl, rfl⟩ := hcs
    have hlm : len ≤ m := by rw [hmm]; split <;> omega
    have hC : Tryd.prog.cellsOf 53 = 3 := by kernel_rfl
    have hC4 : Tryd.prog.cellsOf 3 = 1 := by kernel_rfl
    have hC5 : Tryd.prog.cellsOf 29 = 1 := by kernel_rfl
    have key : ∀ i, ∃ z : Int × Int × Value × List Int, i < len → w.cell? (a.add (i * 3 + 0)) = some (.int .i64 z.1) ∧ w.cell? (a.add (i * 3 + 1)) = some (.int .i64 z.2.1) ∧ w.cell? (a.add (i * 3 + 2)) = some z.2.2.1 ∧ IntsIn w z.2.2.1 z.2.2.2 := by
      intro i
      by_cases hno : ¬ i < len
      · exact ⟨(0, 0, .bool false, []), fun e => absurd e hno⟩
      have hilt : i < len := by omega
      obtain ⟨cs', hc, ht⟩ := hi i (by omega)
      rw [hC] at hc
      obtain ⟨ys, n', hn', hy, hlen, hyl, hf⟩ := DataW.trod_struct Tryd.underlying53 ht
      obtain ⟨_, hcl, hat⟩ := World.cells?_some hc
      match cs', hcl with
      | [c0, c1, c2], _ =>
        have a0 := hat 0 (by omega)
        have a1 := hat 1 (by omega)
        have a2 := hat 2 (by omega)
        rw [Addr.add_add] at a0 a1 a2
        have f0 := hf 0 _ rfl
        have f1 := hf 1 _ rfl
        have f2 := hf 2 _ rfl
        have y3 : ys.length = 3 := hyl
        rw [List.getElem?_eq_getElem (by omega)] at f0 f1 f2
        obtain ⟨x0, e0, -⟩ := DataW.trod_int Tryd.underlying3 f0
        obtain ⟨x1, e1, -⟩ := DataW.trod_int Tryd.underlying3 f1
        simp [hC4] at e0 e1
        subst e0 e1
        have f2' : DataW.trod enc Tryd.prog w base spare held n' 29 [c2] = some ys[2] := by simpa [hC4, hC5] using f2
        obtain ⟨A', n'', c', l', e2, -, -, -, hI⟩ := trod_ints f2'
        exact ⟨(x0, x1, c2, l'), fun _ => ⟨a0, a1, a2, hI⟩⟩
    obtain ⟨Z, hZ⟩ := Classical.axiomOfChoice key
    by_cases hz : len = 0
    · subst hz
      exact ⟨0, 0, fun _ => 0, fun _ => 0, fun _ => .bool false, fun _ => [], ⟨.inr rfl, by simp, by simp, by simp, by simp⟩, hl, hm⟩
    · obtain ⟨h0, _⟩ := hZ 0 (by omega)
      have : a.add (0 * 3 + 0) = a := by simp [Addr.add]
      rw [this] at h0
      obtain ⟨ha, hsp⟩ := add_at h0
      have hsp3 : ∀ i j, a.add (i * 3 + j) = ⟨a.block, a.off + i * 3 + j, none⟩ := fun i j => by rw [hsp, Nat.add_assoc]
      refine ⟨a.block, a.off, fun i => (Z i).1, fun i => (Z i).2.1, fun i => (Z i).2.2.1, fun i => (Z i).2.2.2, ⟨.inl (by rw [← ha]), fun i hilt => ?_, fun i hilt => ?_, fun i hilt => ?_, fun i hilt => (hZ i hilt).2.2.2⟩, hl, hm⟩
      · have := (hZ i hilt).1
        rw [hsp3] at this
        exact this
      · have := (hZ i hilt).2.1
        rw [hsp3] at this
        exact this
      · have := (hZ i hilt).2.2.1
        rw [hsp3] at this
        exact this
theorem early_any (A : Option Addr) (len cap : Nat) (w : World) (hlc : len ≤ cap) :
    Calls Tryd.prog 17 #[.slice A len cap] w fun e w' => e = .returned (.slice A (min len 150) cap) ∧ w = w' := by
  go_enter Tryd.func17, Tryd.ntmps17
  by_cases hle : len ≤ 150
  · rw [show min len 150 = len by omega]
    go_wp2
    go_ret
    exact ⟨rfl, rfl⟩
  · rw [show min len 150 = 150 by omega]
    have h150 : 150 ≤ cap := by omega
    go_wp2
    go_ret
    exact ⟨rfl, rfl⟩
theorem words_step (k n : Int) (A : Option Addr) (len cap : Nat) (w : World) (hlc : len ≤ cap) :
    Calls Tryd.prog 20 #[.agg #[.int .i64 k, .int .i64 n, .slice A len cap]] w fun e w' => e = .returned (.slice A (min len 8) cap) ∧ Below w.heap.size w w' := by
  go_enter Tryd.func20, Tryd.ntmps20
  have hb : Below w.heap.size w (w.alloc (.cells #[.int .i64 k, .int .i64 n, .slice A len cap] 53)) := below_alloc (Nat.le_refl _) _
  by_cases hle : len ≤ 8
  · rw [show min len 8 = len by omega]
    go_wp2
    go_ret
    exact ⟨rfl, hb⟩
  · rw [show min len 8 = 8 by omega]
    have h8 : 8 ≤ cap := by omega
    go_wp2
    go_ret
    exact ⟨rfl, hb⟩
def kindOf (k : Int) : Int := (k % 18446744073709551616) % 8
theorem kindOf_bd (k : Int) : 0 ≤ kindOf k ∧ kindOf k < 8 := by unfold kindOf; omega
theorem kind_step (k n : Int) (v : Value) (w : World) :
    Calls Tryd.prog 18 #[.agg #[.int .i64 k, .int .i64 n, v]] w fun e w' => e = .returned (.int .i64 (kindOf k)) ∧ Below w.heap.size w w' := by
  have hb : Below w.heap.size w (w.alloc (.cells #[.int .i64 k, .int .i64 n, v] 53)) := below_alloc (Nat.le_refl _) _
  have e : wrap64 ((IntKind.u64.wrap k).tmod 8) = kindOf k := by
    rw [IntKind.wrap_u64, Int.tmod_eq_emod_of_nonneg (by omega)]
    unfold wrap64 kindOf
    omega
  go_enter Tryd.func18, Tryd.ntmps18
  go_wp2
  go_ret
  exact ⟨by rw [e]; rfl, hb⟩
end Go.Proofs.YtmcelldklmjlkaaDoor
