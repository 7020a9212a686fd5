/- The reference's pool, its lists the law's own: Of, Free, Give, Let. -/
import Derived.Test.YtjmhdkcnllnekaaPoolRefC
namespace Go.Proofs.Ytjmhdkcnllnekaa
open Go.RowKit
open PPoolPlays
open Go.Proofs.YtjmhdkcnllnekaaW.PrintWords

/-- X, and all that is new. -/
def newX (X : Nat → Prop) (w w' : World) : Nat → Prop := fun k => X k ∨ (w.heap.size ≤ k ∧ k < w'.heap.size)
/-- The reference's pool: its lists are the law's own, and lie in X. -/
structure RR (w : World) (B : Nat) (X : Nat → Prop) (v0 v1 v2 : Value) (p : PS) : Prop where
  o : RefOwn w B v0 v1 v2 p
  x0 : ∀ k, v0.ownBlock = some k → X k
  x1 : ∀ k, v1.ownBlock = some k → X k
  x2 : ∀ k, v2.ownBlock = some k → X k
theorem RR.at_ {w : World} {B : Nat} {X : Nat → Prop} {v0 v1 v2 : Value} {p : PS} (h : RR w B X v0 v1 v2 p) : RefAt w (.agg #[v0, v1, v2]) p :=
  ⟨v0, v1, v2, rfl, ListIn.of_own h.o.r0, ListIn.of_own h.o.r1, ListIn.of_own h.o.r2⟩
theorem RR.keep {w w' : World} {B : Nat} {X : Nat → Prop} {v0 v1 v2 : Value} {p : PS} (h : RR w B X v0 v1 v2 p) (hk : ∀ k, X k → w'.heap[k]? = w.heap[k]?) : RR w' B X v0 v1 v2 p :=
  ⟨⟨own_move h.o.r0 fun k e => hk k (h.x0 k e), own_move h.o.r1 fun k e => hk k (h.x1 k e), own_move h.o.r2 fun k e => hk k (h.x2 k e), h.o.ne⟩, h.x0, h.x1, h.x2⟩
theorem RR.below {w w' : World} {B : Nat} {X : Nat → Prop} {v0 v1 v2 : Value} {p : PS} (h : RR w B X v0 v1 v2 p) (hb : Below w.heap.size w w') : RR w' B X v0 v1 v2 p :=
  ⟨⟨own_move h.o.r0 fun k e => hb.block k (h.o.r0.lt k e).2, own_move h.o.r1 fun k e => hb.block k (h.o.r1.lt k e).2, own_move h.o.r2 fun k e => hb.block k (h.o.r2.lt k e).2, h.o.ne⟩, h.x0, h.x1, h.x2⟩
theorem RR.mono {w : World} {B : Nat} {X Y : Nat → Prop} {v0 v1 v2 : Value} {p : PS} (h : RR w B X v0 v1 v2 p) (hX : ∀ k, B ≤ k → k < w.heap.size → X k → Y k) : RR w B Y v0 v1 v2 p :=
  ⟨h.o, fun k e => hX k (h.o.r0.lt k e).1 (h.o.r0.lt k e).2 (h.x0 k e), fun k e => hX k (h.o.r1.lt k e).1 (h.o.r1.lt k e).2 (h.x1 k e), fun k e => hX k (h.o.r2.lt k e).1 (h.o.r2.lt k e).2 (h.x2 k e)⟩
theorem rep_map {α : Type} (enc : α → Value) (l : List α) : Reps (fun x c => c = [enc x]) 1 l (l.map enc) := by
  refine ⟨by simp, fun j p hj => ?_⟩
  have hl := (List.getElem?_eq_some_iff.1 hj).1
  have he := (List.getElem?_eq_some_iff.1 hj).2
  rw [Nat.mul_one]
  apply List.ext_getElem?
  intro i
  rw [List.getElem?_take]
  by_cases h0 : i < 1
  · rw [if_pos h0, List.getElem?_drop]
    obtain rfl : i = 0 := by omega
    simp [hl, he]
  · rw [if_neg h0, List.getElem?_eq_none (by simp; omega)]
theorem k_bool {w : World} {base : Nat} {ok : Nat → Prop} {v : Value} {l : List Bool} (h : w.ownsRow base 4 1 v l.length (l.map Value.bool)) (hok : ∀ k, v.ownBlock = some k → ok k) : Kd.R Kd.bool 4 w base ok v l :=
  ⟨hok, _, h, rep_map _ _⟩
theorem k_int {w : World} {base : Nat} {ok : Nat → Prop} {v : Value} {l : List Int} (h : w.ownsRow base 3 1 v l.length (l.map (Value.int .i64))) (hok : ∀ k, v.ownBlock = some k → ok k) : Kd.R (Kd.int .i64) 3 w base ok v l :=
  ⟨hok, _, h, rep_map _ _⟩
/-- What lies in no block of X is as it was. -/
def FrX (X : Nat → Prop) (w w' : World) : Prop := w.heap.size ≤ w'.heap.size ∧ ∀ k, k < w.heap.size → ¬ X k → w'.heap[k]? = w.heap[k]?
section
variable {W w : World} {X : Nat → Prop} {v0 v1 v2 : Value} {p q : PS}
theorem rr_of {w' : World} {B : Nat} {P0 P1 P2 : Nat → Prop} {u0 u1 u2 : Value} (h0 : ∀ k, P0 k → X k) (h1 : ∀ k, P1 k → X k) (h2 : ∀ k, P2 k → X k)
    (R0 : Kd.R Kd.bool 4 w' B (fun k => ((P0 k ∨ P1 k ∨ P2 k) ∨ w.heap.size ≤ k)) u0 (tks q)) (R1 : Kd.R (Kd.int .i64) 3 w' B (fun k => ((P0 k ∨ P1 k ∨ P2 k) ∨ w.heap.size ≤ k) ∧ some k ≠ u2.ownBlock) u1 (ows q))
    (R2 : Kd.R (Kd.int .i64) 3 w' B (fun k => ((P0 k ∨ P1 k ∨ P2 k) ∨ w.heap.size ≤ k) ∧ some k ≠ u1.ownBlock) u2 (tus q)) : RR w' B (newX X w w') u0 u1 u2 q := by
  have a0 := r_bool R0
  have a1 := r_int R1
  have a2 := r_int R2
  rw [tks_len] at a0
  rw [ows_len] at a1
  rw [tus_len] at a2
  have key : ∀ k, k < w'.heap.size → ((P0 k ∨ P1 k ∨ P2 k) ∨ w.heap.size ≤ k) → newX X w w' k := fun k hk e => by
    rcases e with (e | e | e) | e
    · exact .inl (h0 k e)
    · exact .inl (h1 k e)
    · exact .inl (h2 k e)
    · exact .inr ⟨e, hk⟩
  exact ⟨⟨a0.1, a1.1, a2.1, fun k e => (a1.2 k e).2⟩, fun k e => key k (a0.1.lt k e).2 (a0.2 k e), fun k e => key k (a1.1.lt k e).2 (a1.2 k e).1, fun k e => key k (a2.1.lt k e).2 (a2.2 k e).1⟩
theorem refgive_any (hB : Below W.heap.size W w) (h : RR w W.heap.size X v0 v1 v2 p) (hp : p.n ≤ 64) (i o : Int) :
    Calls Try.prog 24 #[.agg #[v0, v1, v2], .int .i64 i, .int .i64 o] w fun e w' => ∃ u0 u1 u2, e = .returned (.tuple #[.agg #[u0, u1, u2], .int .i64 (p.give i o).2]) ∧ RR w' W.heap.size (newX X w w') u0 u1 u2 (p.give i o).1 ∧ Below W.heap.size W w' ∧ FrX X w w' := by
  refine (empennageref09_Give.calls 1 (fun k => v0.ownBlock = some k) v0 (tks p) (fun k => v1.ownBlock = some k) v1 (ows p) (fun k => v2.ownBlock = some k) v2 (tus p) i o _ _ _ _ W w hB
    (k_bool (by rw [tks_len]; exact h.o.r0) fun _ e => e) (k_int (by rw [ows_len]; exact h.o.r1) fun _ e => e) (fun k e f => h.o.ne k e f.symm) (k_int (by rw [tus_len]; exact h.o.r2) fun _ e => e) (fun k e f => h.o.ne k f e.symm) (give_f p hp i o 0)).mono ?_
  rintro e w' ⟨u0, u1, u2, rfl, R0, R1, R2, hB', hK⟩
  refine ⟨u0, u1, u2, rfl, rr_of h.x0 h.x1 h.x2 R0 R1 R2, hB', hK.1, fun k hk hn => hK.2 k hk fun e => ?_⟩
  rcases e with e | e | e
  · exact hn (h.x0 k e)
  · exact hn (h.x1 k e)
  · exact hn (h.x2 k e)
theorem reflet_any (hB : Below W.heap.size W w) (h : RR w W.heap.size X v0 v1 v2 p) (hp : p.n ≤ 64) (o : Int) :
    Calls Try.prog 25 #[.agg #[v0, v1, v2], .int .i64 o] w fun e w' => ∃ u0 u1 u2, e = .returned (.tuple #[.agg #[u0, u1, u2], .int .i64 ((ownOf p o).length : Int)]) ∧ RR w' W.heap.size (newX X w w') u0 u1 u2 (p.lets o) ∧ Below W.heap.size W w' ∧ FrX X w w' := by
  have hl : (ownOf p o).length ≤ 64 := Nat.le_trans (findTo_le p true o p.n) hp
  have hf : empennageref09_Let.f 100 (tks p) (ows p) (tus p) o = some (tks (p.lets o), ows (p.lets o), tus (p.lets o), ((ownOf p o).length : Int)) := by
    unfold empennageref09_Let.f empennageref09_Of.f
    rw [show ([] : List Int) = intl [] from rfl, show (0 : Int) = ((0 : Nat) : Int) from rfl, of_f p o hp p.n 100 0 _ _ [] rfl (by omega) (by omega) (by simp [findTo])]
    simp only [Option.bind_some]
    have := let_f p o hp (ownOf p o).length 100 0 (by omega) (by omega)
    rw [List.take_zero, gave_nil] at this
    exact this
  refine (empennageref09_Let.calls 100 (fun k => v0.ownBlock = some k) v0 (tks p) (fun k => v1.ownBlock = some k) v1 (ows p) (fun k => v2.ownBlock = some k) v2 (tus p) o _ _ _ _ W w hB
    (k_bool (by rw [tks_len]; exact h.o.r0) fun _ e => e) (k_int (by rw [ows_len]; exact h.o.r1) fun _ e => e) (fun k e f => h.o.ne k e f.symm) (k_int (by rw [tus_len]; exact h.o.r2) fun _ e => e) (fun k e f => h.o.ne k f e.symm) hf).mono ?_
  rintro e w' ⟨u0, u1, u2, rfl, R0, R1, R2, hB', hK⟩
  refine ⟨u0, u1, u2, rfl, rr_of h.x0 h.x1 h.x2 R0 R1 R2, hB', hK.1, fun k hk hn => hK.2 k hk fun e => ?_⟩
  rcases e with e | e | e
  · exact hn (h.x0 k e)
  · exact hn (h.x1 k e)
  · exact hn (h.x2 k e)
theorem refof_any (h : RR w W.heap.size X v0 v1 v2 p) (hp : p.n ≤ 64) (o : Int) :
    Calls Try.prog 27 #[.agg #[v0, v1, v2], .int .i64 o] w fun e w' => ∃ v, e = .returned v ∧ IntsIn w' v (intl (ownOf p o)) ∧ Below w.heap.size w w' := by
  have h0 := ListIn.of_own h.o.r0
  have h1 := ListIn.of_own h.o.r1
  have h2 := ListIn.of_own h.o.r2
  obtain ⟨A0, c0, rfl, k0, C0⟩ := c_bool h0 (by rw [tks_len]; omega)
  obtain ⟨A1, c1, rfl, k1, C1⟩ := c_int h1 (by rw [ows_len]; omega)
  obtain ⟨A2, c2, rfl, k2, C2⟩ := c_int h2 (by rw [tus_len]; omega)
  have hf : empennageref09_Of.f 100 (tks p) (ows p) (tus p) o = some (intl (ownOf p o)) := of_f p o hp p.n 100 0 _ _ [] rfl (by omega) (by omega) (by simp [findTo])
  refine (empennageref09_Of.calls 100 A0 c0 (tks p) A1 c1 (ows p) A2 c2 (tus p) o _ w C0 k0 C1 k1 C2 k2 hf).mono ?_
  rintro e w' ⟨u, rfl, R, hb⟩
  exact ⟨u, rfl, IntsIn.of_own (r_int R).1 rfl, hb⟩
theorem reffree_any (h : RR w W.heap.size X v0 v1 v2 p) (hv : p.inv) (hp : p.n ≤ 64) :
    Calls Try.prog 26 #[.agg #[v0, v1, v2]] w fun e w' => e = .returned (.int .i64 ((freeOf p).length : Int)) ∧ Below w.heap.size w w' := by
  have h0 := ListIn.of_own h.o.r0
  have h1 := ListIn.of_own h.o.r1
  have h2 := ListIn.of_own h.o.r2
  obtain ⟨A0, c0, rfl, k0, C0⟩ := c_bool h0 (by rw [tks_len]; omega)
  obtain ⟨A1, c1, rfl, k1, C1⟩ := c_int h1 (by rw [ows_len]; omega)
  obtain ⟨A2, c2, rfl, k2, C2⟩ := c_int h2 (by rw [tus_len]; omega)
  have hf : empennageref09_Free.f 100 (tks p) (ows p) (tus p) = some ((freeOf p).length : Int) := free_f p hv hp p.n 100 0 _ _ 0 (by omega) (by omega) (by simp [findTo])
  exact (empennageref09_Free.calls 100 A0 c0 (tks p) A1 c1 (ows p) A2 c2 (tus p) _ w C0 k0 C1 k1 C2 k2 hf).mono fun e w' h => h
end
end Go.Proofs.Ytjmhdkcnllnekaa
