/- The pool and the reference's pool beside each other. -/
import Derived.Test.YtjmhdkcnllnekaaPoolRefE
namespace Go.Proofs.Ytjmhdkcnllnekaa
open Go.RowKit
open PPoolPlays
open Go.Proofs.YtjmhdkcnllnekaaW.PrintWords

/-- But for block b all is as it was. -/
def FrB (b : Nat) (w w' : World) : Prop := w.heap.size ≤ w'.heap.size ∧ ∀ k, k < w.heap.size → k ≠ b → w'.heap[k]? = w.heap[k]?
theorem frB_grown {b : Nat} {w w' : World} (h : w.grownBy w' (some b)) : FrB b w w' := ⟨h.size, fun k hk hn => h.block k hk (by simpa using hn)⟩
theorem frB_below {b : Nat} {w w' : World} (h : Below w.heap.size w w') : FrB b w w' := ⟨h.size, fun k hk _ => h.block k hk⟩
theorem frB_refl (b : Nat) (w : World) : FrB b w w := ⟨Nat.le_refl _, fun _ _ _ => rfl⟩
section
variable {W w : World} {b : Nat} {p : PS}
theorem ctx_takeF (h : Ctx W w b p) (o : Int) {N : Nat} (ht : p.tuLe N) (hN : N ≤ 1000000) :
    Calls Try.prog 12 #[.pointer (some ⟨b, 0, none⟩), .int .i64 o] w fun e w' => e = .returned (.tuple #[.int .i64 (p.take o).2.1, .int .i64 (p.take o).2.2]) ∧ Ctx W w' b (p.take o).1 ∧ FrB b w w' :=
  (ctx_take_only h o ht hN (p' := (p.take o).1) (i := (p.take o).2.1) (x := (p.take o).2.2) rfl).mono fun _ _ ⟨he, hC, hG⟩ => ⟨he, hC, frB_grown hG⟩
theorem ctx_giveF (h : Ctx W w b p) (i o : Int) :
    Calls Try.prog 15 #[.pointer (some ⟨b, 0, none⟩), .int .i64 i, .int .i64 o] w fun e w' => e = .returned (.int .i64 (p.give i o).2) ∧ Ctx W w' b (p.give i o).1 ∧ FrB b w w' := by
  unfold PS.give
  by_cases h1 : i < 0 ∨ (p.n : Int) ≤ i
  · rw [if_pos h1]
    exact (give_range b p i o w h.at_ h1).mono fun _ _ ⟨he, hw⟩ => ⟨he, hw ▸ h, hw ▸ frB_refl _ _⟩
  · rw [if_neg h1]
    obtain ⟨j, rfl⟩ := Int.eq_ofNat_of_zero_le (show 0 ≤ i by omega)
    have hj : j < p.n := by omega
    simp only [Int.toNat_natCast]
    by_cases h2 : p.tk j = false
    · rw [if_pos h2]
      exact (give_empty b p j o w h.at_ hj h2).mono fun _ _ ⟨he, hw⟩ => ⟨he, hw ▸ h, hw ▸ frB_refl _ _⟩
    · rw [if_neg h2]
      have h2' : p.tk j = true := by simpa using h2
      by_cases h3 : p.ow j ≠ o
      · rw [if_pos h3]
        exact (give_other b p j o w h.at_ hj h2' h3).mono fun _ _ ⟨he, hw⟩ => ⟨he, hw ▸ h, hw ▸ frB_refl _ _⟩
      · rw [if_neg h3]
        exact (give_ok b p j o w h.at_ hj h2' (by simpa using h3)).mono fun _ _ ⟨he, hP, hG⟩ => ⟨he, h.only hP hG, frB_grown hG⟩
theorem ctx_letF (h : Ctx W w b p) (o : Int) :
    Calls Try.prog 19 #[.pointer (some ⟨b, 0, none⟩), .int .i64 o] w fun e w' => e = .returned (.int .i64 (ownOf p o).length) ∧ Ctx W w' b (p.lets o) ∧ FrB b w w' :=
  (let_any b p o w h.at_).mono fun _ _ ⟨he, hP, hG⟩ => ⟨he, h.only hP hG, frB_grown hG⟩
theorem ctx_ofI (h : Ctx W w b p) (o : Int) :
    Calls Try.prog 21 #[.pointer (some ⟨b, 0, none⟩), .int .i64 o] w fun e w' => ∃ v, e = .returned v ∧ IntsIn w' v (intl (ownOf p o)) ∧ Below w.heap.size w w' :=
  (of_any b p o w h.at_).mono fun _ _ ⟨v, he, ho, hB⟩ => ⟨v, he, by
    have e : (ownOf p o).length = (intl (ownOf p o)).length := by simp [intl]
    rw [e] at ho
    exact IntsIn.of_own ho (by simp [ints, intl]), hB⟩
end
def zero3 : Array Value := #[.slice none 0 0, .slice none 0 0, .slice none 0 0]
/-- The pool at b, and the law's variable x that has the reference's one, whose lists lie in X. -/
structure PP (W w : World) (b x : Nat) (X : Nat → Prop) (v0 v1 v2 : Value) (p p' : PS) : Prop where
  c : Ctx W w b p
  r : RR w W.heap.size X v0 v1 v2 p'
  k : Blk w x 43 #[v0, v1, v2]
  nb : ¬ X b
  nx : ¬ X x
  xb : x ≠ b
  hx : W.heap.size ≤ x
  xl : ∀ k, X k → k < w.heap.size
theorem RR.keepL {w w' : World} {B : Nat} {X : Nat → Prop} {v0 v1 v2 : Value} {p : PS} (h : RR w B X v0 v1 v2 p) (hk : ∀ k, k < w.heap.size → X k → w'.heap[k]? = w.heap[k]?) : RR w' B X v0 v1 v2 p :=
  ⟨⟨own_move h.o.r0 fun k e => hk k (h.o.r0.lt k e).2 (h.x0 k e), own_move h.o.r1 fun k e => hk k (h.o.r1.lt k e).2 (h.x1 k e), own_move h.o.r2 fun k e => hk k (h.o.r2.lt k e).2 (h.x2 k e), h.o.ne⟩, h.x0, h.x1, h.x2⟩
section
variable {W w w' : World} {b x : Nat} {X : Nat → Prop} {v0 v1 v2 u0 u1 u2 : Value} {p p' p2 p3 : PS}
theorem PP.go (h : PP W w b x X v0 v1 v2 p p') (hb : Below w.heap.size w w') : PP W w' b x X v0 v1 v2 p p' :=
  ⟨h.c.below hb, h.r.below hb, h.k.below hb h.k.lt, h.nb, h.nx, h.xb, h.hx, fun k e => Nat.lt_of_lt_of_le (h.xl k e) hb.size⟩
/-- The pool does what the reference did. -/
theorem PP.pool (h : PP W w b x X v0 v1 v2 p p') (hC : Ctx W w' b p2) (hF : FrB b w w') : PP W w' b x X v0 v1 v2 p2 p' :=
  ⟨hC, h.r.keepL fun k hk e => hF.2 k hk fun f => h.nb (f ▸ e), h.k.of (hF.2 x h.k.lt h.xb), h.nb, h.nx, h.xb, h.hx, fun k e => Nat.lt_of_lt_of_le (h.xl k e) hF.1⟩
/-- What the reference told goes into a fresh variable, and from there into the law's. -/
theorem PP.told (h : PP W w b x X v0 v1 v2 p p') (hR : RR w' W.heap.size (newX X w w') u0 u1 u2 p3) (hB : Below W.heap.size W w') (hF : FrX X w w') :
    PP W (((w'.alloc (.cells zero3 43)).setRow w'.heap.size #[u0, u1, u2]).setRow x #[u0, u1, u2]) b x (newX X w w') u0 u1 u2 p p3 := by
  have hbl := h.c.lt
  have hxl := h.k.lt
  have hs := hF.1
  have hw : ∀ k, k < w'.heap.size → k ≠ x → (((w'.alloc (.cells zero3 43)).setRow w'.heap.size #[u0, u1, u2]).setRow x #[u0, u1, u2]).heap[k]? = w'.heap[k]? := fun k hk hn => by
    rw [setRow_other _ _ _ _ hn, setRow_other _ _ _ _ (by omega), Below.heap_alloc _ _ _ hk]
  have nx : ¬ newX X w w' x := fun e => e.elim h.nx fun e => by omega
  refine ⟨⟨h.c.at_.keep ((hw b (by omega) (Ne.symm h.xb)).trans (hF.2 b hbl h.nb)), ?_, h.c.ge⟩, hR.keepL fun k hk e => hw k hk fun f => nx (f ▸ e), ?_, fun e => e.elim h.nb fun e => by omega, nx, h.xb, h.hx, fun k e => ?_⟩
  · exact below_setRow (below_setRow (hB.alloc hB.size _) hB.size _) h.hx _
  · exact setRow_heap _ _ #[v0, v1, v2] _ 43 (0, 0) ((setRow_other _ _ _ _ (by omega)).trans ((Below.heap_alloc _ _ _ (by omega)).trans ((hF.2 x hxl h.nx).trans h.k)))
  · have h1 : k < w'.heap.size := e.elim (fun e => Nat.lt_of_lt_of_le (h.xl k e) hs) fun e => e.2
    simp
    omega
end
theorem refnew_rr {W : World} (n : Int) (w : World) (hW : W.heap.size ≤ w.heap.size) :
    Calls Try.prog 22 #[.int .i64 n] w fun e w' => ∃ u0 u1 u2, e = .returned (.agg #[u0, u1, u2]) ∧ RR w' W.heap.size (fun k => w.heap.size ≤ k ∧ k < w'.heap.size) u0 u1 u2 (PS.new (slotsOf n)) ∧ Below w.heap.size w w' := by
  have e : mn (mx n 0) 64 = (slotsOf n : Int) := by unfold mn mx slotsOf; split <;> split <;> omega
  have hs := slotsOf_le n
  have q0 : tks (PS.new (slotsOf n)) = List.replicate (slotsOf n) false := by unfold tks; rw [List.eq_replicate_iff]; simp [PS.new]
  have q1 : ows (PS.new (slotsOf n)) = List.replicate (slotsOf n) 0 := by unfold ows; rw [List.eq_replicate_iff]; simp [PS.new]
  have q2 : tus (PS.new (slotsOf n)) = List.replicate (slotsOf n) 0 := by unfold tus; rw [List.eq_replicate_iff]; simp [PS.new]
  refine (empennageref09_New.calls n (tks (PS.new (slotsOf n))) (ows (PS.new (slotsOf n))) (tus (PS.new (slotsOf n))) w ?_).mono ?_
  · rw [q0, q1, q2]
    unfold empennageref09_New.f
    rw [e]
    simp only [Int.toNat_natCast]
    rw [if_pos (by omega), if_pos (by omega), if_pos (by omega)]
  · rintro e w' ⟨u0, u1, u2, rfl, R0, R1, R2, hB⟩
    have a0 := r_bool R0
    have a1 := r_int R1
    have a2 := r_int R2
    rw [tks_len] at a0
    rw [ows_len] at a1
    rw [tus_len] at a2
    exact ⟨u0, u1, u2, rfl, ⟨⟨ownsRow_mono a0.1 hW, ownsRow_mono a1.1 hW, ownsRow_mono a2.1 hW, a1.2⟩, fun k e => a0.1.lt k e, fun k e => a1.1.lt k e, fun k e => a2.1.lt k e⟩, hB⟩
theorem pp_new {W w2 w3 : World} {b : Nat} {u0 u1 u2 : Value} {p : PS} (hC : Ctx W w2 b p) (hR : RR w3 W.heap.size (fun k => w2.heap.size ≤ k ∧ k < w3.heap.size) u0 u1 u2 p) (hb : Below w2.heap.size w2 w3) :
    PP W ((w3.alloc (.cells zero3 43)).setRow w3.heap.size #[u0, u1, u2]) b w3.heap.size (fun k => w2.heap.size ≤ k ∧ k < w3.heap.size) u0 u1 u2 p p := by
  have hbl := hC.lt
  have hs := hb.size
  have hWs := hC.bel.size
  have hw : ∀ k, k < w3.heap.size → ((w3.alloc (.cells zero3 43)).setRow w3.heap.size #[u0, u1, u2]).heap[k]? = w3.heap[k]? := fun k hk => by
    rw [setRow_other _ _ _ _ (by omega), Below.heap_alloc _ _ _ hk]
  refine ⟨⟨(hC.below hb).at_.keep (hw b (by omega)), below_setRow (((hC.below hb).bel).alloc (by omega) _) (by omega) _, hC.ge⟩, hR.keepL fun k hk _ => hw k hk, setRow_heap _ _ zero3 _ 43 (0, 0) (heap_alloc_new w3 _), fun e => by omega, fun e => by omega, by omega, by omega, fun k e => ?_⟩
  simp
  omega
end Go.Proofs.Ytjmhdkcnllnekaa
