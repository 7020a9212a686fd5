/- The reference's pool: Take. -/
import Derived.Test.YtjmhdkcnllnekaaPoolRefD
import Derived.Test.YtjmhdkcnllnekaaWide
import Derived.Deep.CutBlock
namespace Go.Proofs.Ytjmhdkcnllnekaa
open Go.RowKit
open Go.Proofs.YtjmhdkcnllnekaaW.PrintWords

theorem info43 : (Try.prog.info? 43).map (·.size) = some 3 := by kernel_rfl
theorem free_first {p : PS} (hi : p.inv) {k : Nat} (hk : k < p.n) (h0 : p.tk k = false) (h1 : ∀ j, j < k → p.tk j = true) : ∃ rest, freeOf p = k :: rest := by
  have hm := (free_mem hi k).2 ⟨hk, h0⟩
  cases hf : freeOf p with
  | nil => rw [hf] at hm; simp at hm
  | cons i rest =>
    have a := free_head hf
    have b := free_lowest hi hf
    rcases Nat.lt_trichotomy i k with e | e | e
    · have := h1 i e; rw [a.2.1] at this; simp at this
    · exact ⟨rest, by rw [e]⟩
    · have := b k e; rw [h0] at this; simp at this
theorem free_none {p : PS} (h1 : ∀ j, j < p.n → p.tk j = true) : freeOf p = [] := by
  cases hf : freeOf p with
  | nil => rfl
  | cons i rest =>
    have a := free_head hf
    have := h1 i a.1; rw [a.2.1] at this; simp at this
/-- A cell of an own row is turned. -/
theorem own_put {w : World} {B e n g cap k : Nat} {xs : List Value} (h : w.ownsRow B e 1 (.slice (some ⟨g, 0, none⟩) n cap) n xs) (v : Value) : (w.setCell ⟨g, k, none⟩ v).ownsRow B e 1 (.slice (some ⟨g, 0, none⟩) n cap) n (xs.set k v) := by
  obtain ⟨hl, h2⟩ := h
  rcases h2 with ⟨h2, _⟩ | ⟨g', cap', cur, hv', hg, hh, hnc, hcm, hcs, htk⟩
  · simp at h2
  · injection hv' with e1 _ e3
    injection e1 with e1
    injection e1 with e1 _
    subst e1 e3
    have hb : Blk w g e cur := hh
    refine ⟨by simpa using hl, .inr ⟨g, cap, cur.setIfInBounds k v, rfl, hg, hb.set k v, hnc, hcm, by simpa using hcs, ?_⟩⟩
    rw [Array.toList_setIfInBounds, List.take_set, htk]
theorem ones3 (A B C : Option Addr) (a b c d e f : Nat) : (#[Value.slice A a b, .slice B c d, .slice C e f] : Array Value).all (·.oneCell') = true := by simp [Value.oneCell']
theorem setRow3 (w : World) (x : Nat) (a b c : Value) {old : Array Value} (h : Blk w x 43 old) : Blk (w.setRow x #[a, b, c]) x 43 #[a, b, c] := setRow_heap _ _ old _ 43 (0, 0) h
theorem own_three {w2 : World} {B n x y g0 g1 g2 k d0 d1 d2 : Nat} {l0 l1 l2 : List Value} {C : Array Value} (u0 u1 u2 : Value)
    (h0 : w2.ownsRow B 4 1 (.slice (some ⟨g0, 0, none⟩) n d0) n l0) (h1 : w2.ownsRow B 3 1 (.slice (some ⟨g1, 0, none⟩) n d1) n l1) (h2 : w2.ownsRow B 3 1 (.slice (some ⟨g2, 0, none⟩) n d2) n l2)
    (n01 : g0 ≠ g1) (n02 : g0 ≠ g2) (n12 : g1 ≠ g2) (x0 : g0 ≠ x) (x1 : g1 ≠ x) (x2 : g2 ≠ x) (y0 : g0 ≠ y) (y1 : g1 ≠ y) (y2 : g2 ≠ y) (wf : World)
    (hf : wf = ((((w2.setRow x C).setCell ⟨g0, k, none⟩ u0).setCell ⟨g1, k, none⟩ u1).setCell ⟨g2, k, none⟩ u2).setRow y C) :
    wf.ownsRow B 4 1 (.slice (some ⟨g0, 0, none⟩) n d0) n (l0.set k u0) ∧ wf.ownsRow B 3 1 (.slice (some ⟨g1, 0, none⟩) n d1) n (l1.set k u1) ∧ wf.ownsRow B 3 1 (.slice (some ⟨g2, 0, none⟩) n d2) n (l2.set k u2) := by
  subst hf
  have s3 : ∀ b, b ≠ x → (w2.setRow x C).heap[b]? = w2.heap[b]? := fun b hb => setRow_other _ _ _ _ hb
  have a0 : (w2.setRow x C).ownsRow B 4 1 (.slice (some ⟨g0, 0, none⟩) n d0) n l0 := own_move h0 fun b e => by injection e with e; subst e; exact s3 _ x0
  have a1 : (w2.setRow x C).ownsRow B 3 1 (.slice (some ⟨g1, 0, none⟩) n d1) n l1 := own_move h1 fun b e => by injection e with e; subst e; exact s3 _ x1
  have a2 : (w2.setRow x C).ownsRow B 3 1 (.slice (some ⟨g2, 0, none⟩) n d2) n l2 := own_move h2 fun b e => by injection e with e; subst e; exact s3 _ x2
  generalize w2.setRow x C = w3 at a0 a1 a2 ⊢
  have b0 := own_put (k := k) a0 u0
  have b1 : (w3.setCell ⟨g0, k, none⟩ u0).ownsRow B 3 1 (.slice (some ⟨g1, 0, none⟩) n d1) n l1 := own_move a1 fun b e => by injection e with e; subst e; exact Below.heap_setCell _ _ _ _ (Ne.symm n01)
  have b2 : (w3.setCell ⟨g0, k, none⟩ u0).ownsRow B 3 1 (.slice (some ⟨g2, 0, none⟩) n d2) n l2 := own_move a2 fun b e => by injection e with e; subst e; exact Below.heap_setCell _ _ _ _ (Ne.symm n02)
  generalize w3.setCell ⟨g0, k, none⟩ u0 = w4 at b0 b1 b2 ⊢
  have c0 : (w4.setCell ⟨g1, k, none⟩ u1).ownsRow B 4 1 (.slice (some ⟨g0, 0, none⟩) n d0) n (l0.set k u0) := own_move b0 fun b e => by injection e with e; subst e; exact Below.heap_setCell _ _ _ _ n01
  have c1 := own_put (k := k) b1 u1
  have c2 : (w4.setCell ⟨g1, k, none⟩ u1).ownsRow B 3 1 (.slice (some ⟨g2, 0, none⟩) n d2) n l2 := own_move b2 fun b e => by injection e with e; subst e; exact Below.heap_setCell _ _ _ _ (Ne.symm n12)
  generalize w4.setCell ⟨g1, k, none⟩ u1 = w5 at c0 c1 c2 ⊢
  have e0 : (w5.setCell ⟨g2, k, none⟩ u2).ownsRow B 4 1 (.slice (some ⟨g0, 0, none⟩) n d0) n (l0.set k u0) := own_move c0 fun b e => by injection e with e; subst e; exact Below.heap_setCell _ _ _ _ n02
  have e1 : (w5.setCell ⟨g2, k, none⟩ u2).ownsRow B 3 1 (.slice (some ⟨g1, 0, none⟩) n d1) n (l1.set k u1) := own_move c1 fun b e => by injection e with e; subst e; exact Below.heap_setCell _ _ _ _ n12
  have e2 := own_put (k := k) c2 u2
  generalize w5.setCell ⟨g2, k, none⟩ u2 = w6 at e0 e1 e2 ⊢
  exact ⟨own_move e0 fun b e => by injection e with e; subst e; exact setRow_other _ _ _ _ y0, own_move e1 fun b e => by injection e with e; subst e; exact setRow_other _ _ _ _ y1, own_move e2 fun b e => by injection e with e; subst e; exact setRow_other _ _ _ _ y2⟩
theorem take_tks (p : PS) (k : Nat) (o : Int) : ((tks p).map Value.bool).set k (.bool true) = (tks ((p.set k true o).up k)).map Value.bool := by
  rw [← List.map_set, show (tks p).set k true = tks ((p.set k true o).up k) from set_map _ _ _ _ _ fun _ => rfl]
theorem take_ows (p : PS) (k : Nat) (o : Int) : ((ows p).map (Value.int .i64)).set k (.int .i64 o) = (ows ((p.set k true o).up k)).map (Value.int .i64) := by
  rw [← List.map_set, show (ows p).set k o = ows ((p.set k true o).up k) from set_map _ _ _ _ _ fun _ => rfl]
theorem take_tus (p : PS) (k : Nat) (o : Int) : ((tus p).map (Value.int .i64)).set k (.int .i64 (p.tu k + 1)) = (tus ((p.set k true o).up k)).map (Value.int .i64) := by
  rw [← List.map_set, show (tus p).set k (p.tu k + 1) = tus ((p.set k true o).up k) from set_map _ _ _ _ _ fun j => by show (if j = k then p.tu j + 1 else p.tu j) = if j = k then p.tu k + 1 else p.tu j; split <;> simp_all]
set_option maxRecDepth 100000 in
set_option maxHeartbeats 3200000 in
theorem reftake_any {W w : World} {X : Nat → Prop} {v0 v1 v2 : Value} {p : PS} {N : Nat} (hBW : Below W.heap.size W w) (h : RR w W.heap.size X v0 v1 v2 p) (hp : p.n ≤ 64) (hv : p.inv) (ht : p.tuLe N) (hN : N ≤ 1000000) (o : Int) :
    Calls Try.prog 23 #[.agg #[v0, v1, v2], .int .i64 o] w fun e w' => ∃ u0 u1 u2, e = .returned (.tuple #[.agg #[u0, u1, u2], .int .i64 (p.take o).2.1, .int .i64 (p.take o).2.2]) ∧ RR w' W.heap.size (newX X w w') u0 u1 u2 (p.take o).1 ∧ Below W.heap.size W w' ∧ FrX X w w' := by
  have hA := h.at_
  have h0 := own_form h.o.r0
  have h1 := own_form h.o.r1
  have h2 := own_form h.o.r2
  obtain ⟨A0, c0, rfl⟩ := h0
  obtain ⟨A1, c1, rfl⟩ := h1
  obtain ⟨A2, c2, rfl⟩ := h2
  have HC := Lib.hid (show 0 < p.n → ∃ g, A0 = some ⟨g, 0, none⟩ ∧ ∀ w', Below w.heap.size w w' → ∀ i, i < p.n → w'.cell? ⟨g, i, none⟩ = some (.bool (p.tk i)) from fun hp0 => by
    obtain ⟨g, cap, e, _, hlt, _, hc, _⟩ := own_pos h.o.r0 hp0
    injection e with e _ _
    refine ⟨g, e, fun w' hb i hi => ?_⟩
    rw [hb.cell (p := ⟨g, i, none⟩) hlt, hc i (by omega)]
    simp [tks, hi])
  have HR := Lib.hid (And.intro h (And.intro hBW (And.intro hA (And.intro hv ht))))
  clear h hA hBW hv ht
  go_enter Try.func23, Try.ntmps23
  go_upto_region 0 with (fail)
  go_cut [2, 4, 5, 6] (fun p0 p1 p2 p3 wx => ∃ x y, p0 = .pointer (some ⟨x, 0, none⟩) ∧ p1 = .pointer (some ⟨y, 0, none⟩) ∧ p2 = .int .i64 0 ∧ p3 = .int .i64 0 ∧ Boxed 43 w wx x y #[.slice A0 p.n c0, .slice A1 p.n c1, .slice A2 p.n c2])
  case first =>
    go_wp2_with fail
    go_meet
    exact ⟨_, _, rfl, rfl, rfl, rfl, boxed_new _ _ _ _ rfl⟩
  case rest =>
    obtain ⟨x, y, rfl, rfl, rfl, rfl, hB⟩ := hcut
    have k0 : wc.cell? ⟨x, 0, none⟩ = some (.slice A0 p.n c0) := (hB.hx.cell 0).trans rfl
    have HB := Lib.hid hB
    clear hB
    go_wp2_with fail
    go_loopw [7] (fun i wx => ∃ k : Nat, k ≤ p.n ∧ i = .int .i64 k ∧ (∀ j, j < k → p.tk j = true) ∧ wx = wc) (fun i _ => p.n - (intOf i).toNat)
    case atStart => exact ⟨0, Nat.zero_le _, rfl, fun j hj => absurd hj (by omega), by first | rfl | trivial⟩
    case round =>
      obtain ⟨k, hk, rfl, hj, rfl⟩ := hrel
      have HJ := Lib.hid hj
      clear hj
      by_cases hlt : k < p.n
      · have b1 : (k : Int) < (p.n : Int) := by omega
        have b0 : (0 : Int) ≤ (k : Int) := by omega
        obtain ⟨g, rfl, hcell⟩ := HC.out (by omega)
        have kc := hcell _ HB.out.bel k hlt
        clear hcell
        cases htk : p.tk k with
        | true =>
          rw [htk] at kc
          go_wp2
          go_round
          case rel => exact ⟨k + 1, by omega, by go_num, fun j hj => (show j < k ∨ j = k by omega).elim (HJ.out j) (fun e => by rw [e, htk]), by first | rfl | trivial⟩
          case measure => simp [intOf]; omega
        | false =>
          rw [htk] at kc
          obtain ⟨rest, hf⟩ := free_first HR.out.2.2.2.1 hlt htk HJ.out
          have HT := Lib.hid (take_cons hf o)
          go_wp2_with (refine wpList_load_row rfl 43 _ rfl x rfl 43 _ (0, 0) _ HB.out.hx Try.underlying43 rfl info43 ?_)
          refine (own_any (HR.out.2.2.1.below HB.out.bel) hp).mono ?_
          rintro e w2 ⟨u0, u1, u2, rfl, hO, hb⟩
          obtain ⟨g0, d0, rfl, hg0, hl0, -, hc0, hf0⟩ := own_pos hO.r0 (by omega)
          obtain ⟨g1, d1, rfl, hg1, hl1, -, hc1, hf1⟩ := own_pos hO.r1 (by omega)
          obtain ⟨g2, d2, rfl, hg2, hl2, -, hc2, hf2⟩ := own_pos hO.r2 (by omega)
          have n01 : g0 ≠ g1 := fun e => by
            have a := hc0 k (by omega)
            rw [e, hc1 k (by omega)] at a
            simp [tks, ows, hlt] at a
          have n02 : g0 ≠ g2 := fun e => by
            have a := hc0 k (by omega)
            rw [e, hc2 k (by omega)] at a
            simp [tks, tus, hlt] at a
          have n12 : g1 ≠ g2 := fun e => hO.ne g1 rfl (by rw [e]; rfl)
          have hxl := HB.out.hx.lt
          have HB2 := Lib.hid (HB.out.go hb)
          obtain ⟨zs, hz, hy⟩ := HB.out.hy
          have hyl := hy.lt
          have hy2 := hy.below hb hyl
          have hgw : w.heap.size ≤ wr.heap.size := HB.out.bel.size
          have X3 := setRow3 w2 x (.slice (some ⟨g0, 0, none⟩) p.n d0) (.slice (some ⟨g1, 0, none⟩) p.n d1) (.slice (some ⟨g2, 0, none⟩) p.n d2) HB2.out.hx
          have X4 := X3.far (p := ⟨g0, k, none⟩) (show x ≠ g0 by omega) (.bool true)
          have X5 := X4.far (p := ⟨g1, k, none⟩) (show x ≠ g1 by omega) (.int .i64 o)
          have X6 := X5.far (p := ⟨g2, k, none⟩) (show x ≠ g2 by omega) (.int .i64 (p.tu k + 1))
          have Y3 : Blk (w2.setRow x #[.slice (some ⟨g0, 0, none⟩) p.n d0, .slice (some ⟨g1, 0, none⟩) p.n d1, .slice (some ⟨g2, 0, none⟩) p.n d2]) y 43 zs := (setRow_other _ _ _ _ (Ne.symm HB.out.ne)).trans hy2
          have Y6 := ((Y3.far (p := ⟨g0, k, none⟩) (show y ≠ g0 by omega) (.bool true)).far (p := ⟨g1, k, none⟩) (show y ≠ g1 by omega) (.int .i64 o)).far (p := ⟨g2, k, none⟩) (show y ≠ g2 by omega) (.int .i64 (p.tu k + 1))
          have q0 : (w2.setRow x #[.slice (some ⟨g0, 0, none⟩) p.n d0, .slice (some ⟨g1, 0, none⟩) p.n d1, .slice (some ⟨g2, 0, none⟩) p.n d2]).cell? ⟨x, 0, none⟩ = some (.slice (some ⟨g0, 0, none⟩) p.n d0) := (X3.cell 0).trans rfl
          have q1 : ((w2.setRow x #[.slice (some ⟨g0, 0, none⟩) p.n d0, .slice (some ⟨g1, 0, none⟩) p.n d1, .slice (some ⟨g2, 0, none⟩) p.n d2]).setCell ⟨g0, k, none⟩ (.bool true)).cell? ⟨x, 1, none⟩ = some (.slice (some ⟨g1, 0, none⟩) p.n d1) := (X4.cell 1).trans rfl
          have q2 : (((w2.setRow x #[.slice (some ⟨g0, 0, none⟩) p.n d0, .slice (some ⟨g1, 0, none⟩) p.n d1, .slice (some ⟨g2, 0, none⟩) p.n d2]).setCell ⟨g0, k, none⟩ (.bool true)).setCell ⟨g1, k, none⟩ (.int .i64 o)).cell? ⟨x, 2, none⟩ = some (.slice (some ⟨g2, 0, none⟩) p.n d2) := (X5.cell 2).trans rfl
          have e0 : (w2.setRow x #[.slice (some ⟨g0, 0, none⟩) p.n d0, .slice (some ⟨g1, 0, none⟩) p.n d1, .slice (some ⟨g2, 0, none⟩) p.n d2]).cell? ⟨g0, k, none⟩ = some (.bool (p.tk k)) := (cell_setRow_other _ _ _ _ (show g0 ≠ x by omega)).trans ((hc0 k (by omega)).trans (by simp [tks, hlt]))
          have e1 : ((w2.setRow x #[.slice (some ⟨g0, 0, none⟩) p.n d0, .slice (some ⟨g1, 0, none⟩) p.n d1, .slice (some ⟨g2, 0, none⟩) p.n d2]).setCell ⟨g0, k, none⟩ (.bool true)).cell? ⟨g1, k, none⟩ = some (.int .i64 (p.ow k)) := (cell_far n01).trans ((cell_setRow_other _ _ _ _ (show g1 ≠ x by omega)).trans ((hc1 k (by omega)).trans (by simp [ows, hlt])))
          have e2 : (((w2.setRow x #[.slice (some ⟨g0, 0, none⟩) p.n d0, .slice (some ⟨g1, 0, none⟩) p.n d1, .slice (some ⟨g2, 0, none⟩) p.n d2]).setCell ⟨g0, k, none⟩ (.bool true)).setCell ⟨g1, k, none⟩ (.int .i64 o)).cell? ⟨g2, k, none⟩ = some (.int .i64 (p.tu k)) := (cell_far n12).trans ((cell_far n02).trans ((cell_setRow_other _ _ _ _ (show g2 ≠ x by omega)).trans ((hc2 k (by omega)).trans (by simp [tus, hlt]))))
          have s3 : ∀ b, b ≠ x → (w2.setRow x #[.slice (some ⟨g0, 0, none⟩) p.n d0, .slice (some ⟨g1, 0, none⟩) p.n d1, .slice (some ⟨g2, 0, none⟩) p.n d2]).heap[b]? = w2.heap[b]? := fun b hb => setRow_other _ _ _ _ hb
          have s4 : ∀ b, b ≠ x → b ≠ g0 → ((w2.setRow x #[.slice (some ⟨g0, 0, none⟩) p.n d0, .slice (some ⟨g1, 0, none⟩) p.n d1, .slice (some ⟨g2, 0, none⟩) p.n d2]).setCell ⟨g0, k, none⟩ (.bool true)).heap[b]? = w2.heap[b]? := fun b hb h0 => (Below.heap_setCell _ _ _ _ h0).trans (s3 b hb)
          have s5 : ∀ b, b ≠ x → b ≠ g0 → b ≠ g1 → (((w2.setRow x #[.slice (some ⟨g0, 0, none⟩) p.n d0, .slice (some ⟨g1, 0, none⟩) p.n d1, .slice (some ⟨g2, 0, none⟩) p.n d2]).setCell ⟨g0, k, none⟩ (.bool true)).setCell ⟨g1, k, none⟩ (.int .i64 o)).heap[b]? = w2.heap[b]? := fun b hb h0 h1 => (Below.heap_setCell _ _ _ _ h1).trans (s4 b hb h0)
          have f0 : (w2.setRow x #[.slice (some ⟨g0, 0, none⟩) p.n d0, .slice (some ⟨g1, 0, none⟩) p.n d1, .slice (some ⟨g2, 0, none⟩) p.n d2]).frozen? ⟨g0, k, none⟩ = false := (World.frozen?_of_block (a := ⟨g0, k, none⟩) (s3 g0 (by omega))).trans (hf0 k)
          have f1 : ((w2.setRow x #[.slice (some ⟨g0, 0, none⟩) p.n d0, .slice (some ⟨g1, 0, none⟩) p.n d1, .slice (some ⟨g2, 0, none⟩) p.n d2]).setCell ⟨g0, k, none⟩ (.bool true)).frozen? ⟨g1, k, none⟩ = false := (World.frozen?_of_block (a := ⟨g1, k, none⟩) (s4 g1 (by omega) (Ne.symm n01))).trans (hf1 k)
          have f2 : (((w2.setRow x #[.slice (some ⟨g0, 0, none⟩) p.n d0, .slice (some ⟨g1, 0, none⟩) p.n d1, .slice (some ⟨g2, 0, none⟩) p.n d2]).setCell ⟨g0, k, none⟩ (.bool true)).setCell ⟨g1, k, none⟩ (.int .i64 o)).frozen? ⟨g2, k, none⟩ = false := (World.frozen?_of_block (a := ⟨g2, k, none⟩) (s5 g2 (by omega) (Ne.symm n02) (Ne.symm n12))).trans (hf2 k)
          have htu := HR.out.2.2.2.2 k
          have hw : IntKind.i64.wrap (p.tu k + 1) = p.tu k + 1 := by rw [IntKind.wrap_i64]; omega
          have hb7 : Below w.heap.size w (((((w2.setRow x #[.slice (some ⟨g0, 0, none⟩) p.n d0, .slice (some ⟨g1, 0, none⟩) p.n d1, .slice (some ⟨g2, 0, none⟩) p.n d2]).setCell ⟨g0, k, none⟩ (.bool true)).setCell ⟨g1, k, none⟩ (.int .i64 o)).setCell ⟨g2, k, none⟩ (.int .i64 (p.tu k + 1))).setRow y #[.slice (some ⟨g0, 0, none⟩) p.n d0, .slice (some ⟨g1, 0, none⟩) p.n d1, .slice (some ⟨g2, 0, none⟩) p.n d2]) := below_setRow ((((below_setRow HB2.out.bel HB.out.gx _).setCell (p := ⟨g0, k, none⟩) (show w.heap.size ≤ g0 by omega) _).setCell (p := ⟨g1, k, none⟩) (show w.heap.size ≤ g1 by omega) _).setCell (p := ⟨g2, k, none⟩) (show w.heap.size ≤ g2 by omega) _) HB.out.gy _
          have hWs := HR.out.2.1.size
          obtain ⟨R0, R1, R2⟩ := own_three (k := k) (y := y) (.bool true) (.int .i64 o) (.int .i64 (p.tu k + 1)) hO.r0 hO.r1 hO.r2 n01 n02 n12 (show g0 ≠ x by omega) (show g1 ≠ x by omega) (show g2 ≠ x by omega) (show g0 ≠ y by omega) (show g1 ≠ y by omega) (show g2 ≠ y by omega) _ rfl
          rw [take_tks p k o] at R0
          rw [take_ows p k o] at R1
          rw [take_tus p k o] at R2
          have hs7 : (((((w2.setRow x #[.slice (some ⟨g0, 0, none⟩) p.n d0, .slice (some ⟨g1, 0, none⟩) p.n d1, .slice (some ⟨g2, 0, none⟩) p.n d2]).setCell ⟨g0, k, none⟩ (.bool true)).setCell ⟨g1, k, none⟩ (.int .i64 o)).setCell ⟨g2, k, none⟩ (.int .i64 (p.tu k + 1))).setRow y #[.slice (some ⟨g0, 0, none⟩) p.n d0, .slice (some ⟨g1, 0, none⟩) p.n d1, .slice (some ⟨g2, 0, none⟩) p.n d2]).heap.size = w2.heap.size := by simp [World.setCell]
          have HRR := Lib.hid (show RR (((((w2.setRow x #[.slice (some ⟨g0, 0, none⟩) p.n d0, .slice (some ⟨g1, 0, none⟩) p.n d1, .slice (some ⟨g2, 0, none⟩) p.n d2]).setCell ⟨g0, k, none⟩ (.bool true)).setCell ⟨g1, k, none⟩ (.int .i64 o)).setCell ⟨g2, k, none⟩ (.int .i64 (p.tu k + 1))).setRow y #[.slice (some ⟨g0, 0, none⟩) p.n d0, .slice (some ⟨g1, 0, none⟩) p.n d1, .slice (some ⟨g2, 0, none⟩) p.n d2]) W.heap.size (newX X w (((((w2.setRow x #[.slice (some ⟨g0, 0, none⟩) p.n d0, .slice (some ⟨g1, 0, none⟩) p.n d1, .slice (some ⟨g2, 0, none⟩) p.n d2]).setCell ⟨g0, k, none⟩ (.bool true)).setCell ⟨g1, k, none⟩ (.int .i64 o)).setCell ⟨g2, k, none⟩ (.int .i64 (p.tu k + 1))).setRow y #[.slice (some ⟨g0, 0, none⟩) p.n d0, .slice (some ⟨g1, 0, none⟩) p.n d1, .slice (some ⟨g2, 0, none⟩) p.n d2])) (.slice (some ⟨g0, 0, none⟩) p.n d0) (.slice (some ⟨g1, 0, none⟩) p.n d1) (.slice (some ⟨g2, 0, none⟩) p.n d2) ((p.set k true o).up k) from
            ⟨⟨ownsRow_mono R0 (by omega), ownsRow_mono R1 (by omega), ownsRow_mono R2 (by omega), fun b e => hO.ne b e⟩, fun b e => by injection e with e; subst e; exact .inr ⟨show w.heap.size ≤ g0 by omega, by rw [hs7]; exact hl0⟩, fun b e => by injection e with e; subst e; exact .inr ⟨show w.heap.size ≤ g1 by omega, by rw [hs7]; exact hl1⟩, fun b e => by injection e with e; subst e; exact .inr ⟨show w.heap.size ≤ g2 by omega, by rw [hs7]; exact hl2⟩⟩)
          have HX6 := Lib.hid X6
          have HY6 := Lib.hid (And.intro hz Y6)
          have HYF := Lib.hid (show Blk (((((w2.setRow x #[.slice (some ⟨g0, 0, none⟩) p.n d0, .slice (some ⟨g1, 0, none⟩) p.n d1, .slice (some ⟨g2, 0, none⟩) p.n d2]).setCell ⟨g0, k, none⟩ (.bool true)).setCell ⟨g1, k, none⟩ (.int .i64 o)).setCell ⟨g2, k, none⟩ (.int .i64 (p.tu k + 1))).setRow y #[.slice (some ⟨g0, 0, none⟩) p.n d0, .slice (some ⟨g1, 0, none⟩) p.n d1, .slice (some ⟨g2, 0, none⟩) p.n d2]) y 43 #[.slice (some ⟨g0, 0, none⟩) p.n d0, .slice (some ⟨g1, 0, none⟩) p.n d1, .slice (some ⟨g2, 0, none⟩) p.n d2] from setRow3 _ y _ _ _ Y6)
          have HB7 := Lib.hid hb7
          have HX2 := Lib.hid HB2.out.hx
          clear hO hb hc0 hf0 hc1 hf1 hc2 hf2 HB2 hz hy hy2 X3 X4 X5 X6 Y3 Y6 s3 s4 s5 htu hb7 R0 R1 R2 hs7 kc k0
          go_wp2_with (first
            | ((with_reducible change wpList _ _ _ _ _ ((((w2.setRow x #[.slice (some ⟨g0, 0, none⟩) p.n d0, .slice (some ⟨g1, 0, none⟩) p.n d1, .slice (some ⟨g2, 0, none⟩) p.n d2]).setCell ⟨g0, k, none⟩ (.bool true)).setCell ⟨g1, k, none⟩ (.int .i64 o)).setCell ⟨g2, k, none⟩ (.int .i64 (p.tu k + 1)))); refine wpList_load_row rfl 43 _ rfl x rfl 43 _ (0, 0) _ HX6.out Try.underlying43 rfl info43 ?_)
            | ((with_reducible change wpList _ _ _ _ _ w2); refine wpList_store_row rfl 43 _ _ rfl x #[.slice (some ⟨g0, 0, none⟩) p.n d0, .slice (some ⟨g1, 0, none⟩) p.n d1, .slice (some ⟨g2, 0, none⟩) p.n d2] rfl rfl 43 _ HX2.out info43 rfl (ones3 _ _ _ _ _ _ _ _ _) ?_)
            | ((with_reducible change wpList _ _ _ _ _ ((((w2.setRow x #[.slice (some ⟨g0, 0, none⟩) p.n d0, .slice (some ⟨g1, 0, none⟩) p.n d1, .slice (some ⟨g2, 0, none⟩) p.n d2]).setCell ⟨g0, k, none⟩ (.bool true)).setCell ⟨g1, k, none⟩ (.int .i64 o)).setCell ⟨g2, k, none⟩ (.int .i64 (p.tu k + 1)))); refine wpList_store_row rfl 43 _ _ rfl y #[.slice (some ⟨g0, 0, none⟩) p.n d0, .slice (some ⟨g1, 0, none⟩) p.n d1, .slice (some ⟨g2, 0, none⟩) p.n d2] rfl rfl 43 zs HY6.out.2 info43 HY6.out.1 (ones3 _ _ _ _ _ _ _ _ _) ?_))
          (try simp only [Exit.inBlock, Exit.then]); refine bodyPost_ret (res_c3 rfl _ rfl HYF.out Try.underlying43 rfl info43) rfl ?_
          exact ⟨_, _, _, by rw [HT.out]; rfl, by rw [HT.out]; exact HRR.out, HR.out.2.1.trans (HB7.out.mono HR.out.2.1.size), HB7.out.size, fun b hb _ => HB7.out.block b hb⟩
      · obtain rfl : k = p.n := by omega
        have b1 : ¬ ((p.n : Nat) : Int) < (p.n : Int) := by omega
        have HT := Lib.hid (take_empty (free_none HJ.out) o)
        obtain ⟨zs, hz, hy⟩ := HB.out.hy
        have HY := Lib.hid (And.intro hz hy)
        have HXX := Lib.hid HB.out.hx
        have HE := Lib.hid HB.out.end_
        have HYF := Lib.hid HB.out.row
        have HRW := Lib.hid (show RR (wr.setRow y #[.slice A0 p.n c0, .slice A1 p.n c1, .slice A2 p.n c2]) W.heap.size X (.slice A0 p.n c0) (.slice A1 p.n c1) (.slice A2 p.n c2) p from HR.out.1.below HE.out)
        clear hz hy HB
        go_wp2_with (first
          | (refine wpList_load_row rfl 43 _ rfl x rfl 43 _ (0, 0) _ HXX.out Try.underlying43 rfl info43 ?_)
          | (refine wpList_store_row rfl 43 _ _ rfl y #[.slice A0 p.n c0, .slice A1 p.n c1, .slice A2 p.n c2] rfl rfl 43 zs HY.out.2 info43 HY.out.1 (ones3 _ _ _ _ _ _ _ _ _) ?_))
        (try simp only [Exit.inBlock, Exit.then]); refine bodyPost_ret (res_c3 rfl _ rfl HYF.out Try.underlying43 rfl info43) rfl ?_
        exact ⟨_, _, _, by rw [HT.out]; rfl, by rw [HT.out]; exact HRW.out.mono fun _ _ _ e => .inl e, HR.out.2.1.trans (HE.out.mono HR.out.2.1.size), HE.out.size, fun b hb _ => HE.out.block b hb⟩
end Go.Proofs.Ytjmhdkcnllnekaa
