/- lives, early, kind; what a script reads as. -/
import Derived.Test.YtjmhdkcnllnekaaPoolMore
namespace Go.Proofs.Ytjmhdkcnllnekaa
open Go.RowKit

/-- A script that came in: its steps' cells; every number fits. -/
structure Script (w : World) (A : Option Addr) (n : Nat) (bs off : Nat) (K S O : Nat → Int) : Prop where
  at_ : A = some ⟨bs, off, none⟩ ∨ n = 0
  c0 : ∀ i, i < n → w.cell? ⟨bs, off + i * 3, none⟩ = some (.int .i64 (K i))
  c1 : ∀ i, i < n → w.cell? ⟨bs, off + i * 3 + 1, none⟩ = some (.int .i64 (S i))
  c2 : ∀ i, i < n → w.cell? ⟨bs, off + i * 3 + 2, none⟩ = some (.int .i64 (O i))
  bk : ∀ i, i < n → -9223372036854775808 ≤ K i ∧ K i ≤ 9223372036854775807
  bsl : ∀ i, i < n → -9223372036854775808 ≤ S i ∧ S i ≤ 9223372036854775807
  bo : ∀ i, i < n → -9223372036854775808 ≤ O i ∧ O i ≤ 9223372036854775807
theorem Script.keep {w w' : World} {A : Option Addr} {n bs off : Nat} {K S O : Nat → Int} (h : Script w A n bs off K S O) (hk : n = 0 ∨ w'.heap[bs]? = w.heap[bs]?) : Script w' A n bs off K S O := by
  have hc : ∀ i, i < n → ∀ o, w'.cell? ⟨bs, o, none⟩ = w.cell? ⟨bs, o, none⟩ := fun i hi o => World.cell?_of_block (a := ⟨bs, o, none⟩) (hk.resolve_left (by omega))
  exact ⟨h.at_, fun i hi => (hc i hi _).trans (h.c0 i hi), fun i hi => (hc i hi _).trans (h.c1 i hi), fun i hi => (hc i hi _).trans (h.c2 i hi), h.bk, h.bsl, h.bo⟩
theorem Script.lt {w : World} {A : Option Addr} {n bs off : Nat} {K S O : Nat → Int} (h : Script w A n bs off K S O) (hn : 0 < n) : bs < w.heap.size :=
  World.block_lt_of_cell? _ _ (h.c0 0 hn)
theorem Script.below {w w' : World} {A : Option Addr} {n bs off : Nat} {K S O : Nat → Int} (h : Script w A n bs off K S O) (hb : Below w.heap.size w w') : Script w' A n bs off K S O :=
  h.keep ((Nat.eq_zero_or_pos n).imp id fun e => hb.block bs (h.lt e))
theorem Script.less {w : World} {A : Option Addr} {n m bs off : Nat} {K S O : Nat → Int} (h : Script w A n bs off K S O) (hm : m ≤ n) : Script w A m bs off K S O :=
  ⟨h.at_.imp id fun e => by omega, fun i hi => h.c0 i (by omega), fun i hi => h.c1 i (by omega), fun i hi => h.c2 i (by omega), fun i hi => h.bk i (by omega), fun i hi => h.bsl i (by omega), fun i hi => h.bo i (by omega)⟩

theorem early_any (A : Option Addr) (n c : Nat) (w : World) (hn : n ≤ c) (hc : c ≤ maxLen) :
    Calls Try.prog 11 #[.slice A n c] w fun e w' => e = .returned (.slice A (min n 80) c) ∧ w = w' := by
  unfold maxLen at hc
  by_cases h : n ≤ 80
  · rw [show min n 80 = n from by omega]
    go_enter Try.func11, Try.ntmps11
    go_wp2
    go_ret
    exact ⟨rfl, rfl⟩
  · rw [show min n 80 = 80 from by omega]
    go_enter Try.func11, Try.ntmps11
    go_wp2
    go_ret
    exact ⟨rfl, rfl⟩
def kindOf (k : Int) : Int := k % 4
theorem kind_any (k s o : Int) (w : World) (_h0 : -9223372036854775808 ≤ k) (_h1 : k ≤ 9223372036854775807) :
    Calls Try.prog 14 #[.agg #[.int .i64 k, .int .i64 s, .int .i64 o]] w fun e w' => e = .returned (.int .i64 (kindOf k)) ∧ Below w.heap.size w w' := by
  go_enter Try.func14, Try.ntmps14
  go_wp2
  go_ret
  have e : wrap64 ((IntKind.u64.wrap k).tmod 4) = kindOf k := by
    rw [IntKind.wrap_u64, Int.tmod_eq_emod_of_nonneg (by omega)]
    unfold wrap64 kindOf
    omega
  exact ⟨by rw [← e]; rfl, (Below.refl _ _).alloc (Nat.le_refl _) _⟩

/-! ### The pool as the laws see it: made by the law itself, above all that was there -/
structure Ctx (W w : World) (b : Nat) (p : PS) : Prop where
  at_ : PoolAt w b p
  bel : Below W.heap.size W w
  ge : W.heap.size ≤ b
theorem Ctx.lt {W w : World} {b : Nat} {p : PS} (h : Ctx W w b p) : b < w.heap.size := h.at_.lt
theorem Ctx.below {W w w' : World} {b : Nat} {p : PS} (h : Ctx W w b p) (hb : Below w.heap.size w w') : Ctx W w' b p :=
  ⟨h.at_.below hb h.lt, h.bel.trans (hb.mono h.bel.size), h.ge⟩
theorem Ctx.only {W w w' : World} {b : Nat} {p p' : PS} (h : Ctx W w b p) (hP : PoolAt w' b p') (hg : w.grownBy w' (some b)) : Ctx W w' b p' :=
  ⟨hP, below_only h.bel hg h.bel.size h.ge, h.ge⟩
theorem Ctx.drewN {W w : World} {b : Nat} {p : PS} (h : Ctx W w b p) (n : Nat) : Ctx W (w.drewN n) b p := h.below (below_drewN' w n)

def PS.tuLe (p : PS) (N : Nat) : Prop := ∀ i, 0 ≤ p.tu i ∧ p.tu i ≤ (N : Int)
def PS.take (p : PS) (o : Int) : PS × Int × Int := match freeOf p with
  | [] => (p, -1, 10)
  | i :: _ => ((p.set i true o).up i, (i : Int), 0)
def PS.give (p : PS) (i o : Int) : PS × Int :=
  if i < 0 ∨ (p.n : Int) ≤ i then (p, 7) else if p.tk i.toNat = false then (p, 11) else if p.ow i.toNat ≠ o then (p, 2) else (p.set i.toNat false 0, 0)
def PS.lets (p : PS) (o : Int) : PS := p.gave (ownOf p o)

theorem ctx_new {W w : World} (n : Int) (h : Below W.heap.size W w) :
    Calls Try.prog 10 #[.int .i64 n] w fun e w' => e = .returned (.pointer (some ⟨w.heap.size, 0, none⟩)) ∧ Ctx W w' w.heap.size (PS.new (slotsOf n)) :=
  (new_any n w).mono fun _ _ ⟨he, hP, hB⟩ => ⟨he, hP, h.trans (hB.mono h.size), h.size⟩
theorem ctx_take {W w : World} {b : Nat} {p : PS} (h : Ctx W w b p) (o : Int) {N : Nat} (ht : p.tuLe N) (hN : N ≤ 1000000) :
    Calls Try.prog 12 #[.pointer (some ⟨b, 0, none⟩), .int .i64 o] w fun e w' => e = .returned (.tuple #[.int .i64 (p.take o).2.1, .int .i64 (p.take o).2.2]) ∧ Ctx W w' b (p.take o).1 := by
  unfold PS.take
  cases hf : freeOf p with
  | nil => exact (take_none b p o w h.at_ hf).mono fun _ _ ⟨he, hB⟩ => ⟨he, h.below hB⟩
  | cons i rest => exact (take_some b p o w h.at_ i rest hf ⟨(ht i).1, by have := (ht i).2; omega⟩).mono fun _ _ ⟨he, hP, hG⟩ => ⟨he, h.only hP hG⟩
theorem ctx_give {W w : World} {b : Nat} {p : PS} (h : Ctx W w b p) (i o : Int) :
    Calls Try.prog 15 #[.pointer (some ⟨b, 0, none⟩), .int .i64 i, .int .i64 o] w fun e w' => e = .returned (.int .i64 (p.give i o).2) ∧ Ctx W w' b (p.give i o).1 := by
  unfold PS.give
  by_cases h1 : i < 0 ∨ (p.n : Int) ≤ i
  · rw [if_pos h1]
    exact (give_range b p i o w h.at_ h1).mono fun _ _ ⟨he, hw⟩ => ⟨he, hw ▸ h⟩
  · rw [if_neg h1]
    obtain ⟨j, rfl⟩ := Int.eq_ofNat_of_zero_le (show 0 ≤ i by omega)
    have hj : j < p.n := by omega
    simp only [Int.toNat_natCast]
    by_cases h2 : p.tk j = false
    · rw [if_pos h2]
      exact (give_empty b p j o w h.at_ hj h2).mono fun _ _ ⟨he, hw⟩ => ⟨he, hw ▸ h⟩
    · rw [if_neg h2]
      have h2' : p.tk j = true := by simpa using h2
      by_cases h3 : p.ow j ≠ o
      · rw [if_pos h3]
        exact (give_other b p j o w h.at_ hj h2' h3).mono fun _ _ ⟨he, hw⟩ => ⟨he, hw ▸ h⟩
      · rw [if_neg h3]
        exact (give_ok b p j o w h.at_ hj h2' (by simpa using h3)).mono fun _ _ ⟨he, hP, hG⟩ => ⟨he, h.only hP hG⟩
theorem ctx_let {W w : World} {b : Nat} {p : PS} (h : Ctx W w b p) (o : Int) :
    Calls Try.prog 19 #[.pointer (some ⟨b, 0, none⟩), .int .i64 o] w fun e w' => e = .returned (.int .i64 (ownOf p o).length) ∧ Ctx W w' b (p.lets o) :=
  (let_any b p o w h.at_).mono fun _ _ ⟨he, hP, hG⟩ => ⟨he, h.only hP hG⟩
theorem ctx_of {W w : World} {b : Nat} {p : PS} (h : Ctx W w b p) (o : Int) :
    Calls Try.prog 21 #[.pointer (some ⟨b, 0, none⟩), .int .i64 o] w fun e w' => ∃ v, e = .returned v ∧ w'.ownsRow (w.heap.size + 1) 3 1 v (ownOf p o).length (ints (ownOf p o)) ∧ Ctx W w' b p :=
  (of_any b p o w h.at_).mono fun _ _ ⟨v, he, ho, hB⟩ => ⟨v, he, ho, h.below hB⟩
theorem ctx_free {W w : World} {b : Nat} {p : PS} (h : Ctx W w b p) :
    Calls Try.prog 17 #[.pointer (some ⟨b, 0, none⟩)] w fun e w' => e = .returned (.int .i64 (freeOf p).length) ∧ Ctx W w' b p :=
  (free_any b p w h.at_).mono fun _ _ ⟨he, hB⟩ => ⟨he, h.below hB⟩
def PS.turn (p : PS) (i : Int) : Int := if i < 0 ∨ (p.n : Int) ≤ i then 0 else p.tu i.toNat
theorem ctx_turn {W w : World} {b : Nat} {p : PS} (h : Ctx W w b p) (i : Int) :
    Calls Try.prog 13 #[.pointer (some ⟨b, 0, none⟩), .int .i64 i] w fun e w' => e = .returned (.int .i64 (p.turn i)) ∧ w = w' := by
  unfold PS.turn
  by_cases h1 : i < 0 ∨ (p.n : Int) ≤ i
  · rw [if_pos h1]; exact turn_out b p i w h.at_ h1
  · rw [if_neg h1]
    obtain ⟨j, rfl⟩ := Int.eq_ofNat_of_zero_le (show 0 ≤ i by omega)
    exact turn_in b p j w h.at_ (by omega)

theorem tuLe_new (n N : Nat) : (PS.new n).tuLe N := fun i => by simp [PS.new]
theorem tuLe_mono {p : PS} {N M : Nat} (h : p.tuLe N) (hm : N ≤ M) : p.tuLe M := fun i => ⟨(h i).1, by have := (h i).2; omega⟩
theorem tuLe_take {p : PS} {N : Nat} (h : p.tuLe N) (o : Int) : (p.take o).1.tuLe (N + 1) := by
  unfold PS.take
  split
  · exact tuLe_mono h (by omega)
  · intro j
    have := h j
    simp only [PS.up, PS.set]
    split <;> omega
theorem give_tu (p : PS) (i o : Int) : (p.give i o).1.tu = p.tu := by
  unfold PS.give
  repeat' split
  all_goals rfl
theorem tuLe_give {p : PS} {N : Nat} (h : p.tuLe N) (i o : Int) : (p.give i o).1.tuLe N := by
  unfold PS.tuLe; rw [give_tu]; exact h
theorem tuLe_lets {p : PS} {N : Nat} (h : p.tuLe N) (o : Int) : (p.lets o).tuLe N := h
theorem take_n (p : PS) (o : Int) : (p.take o).1.n = p.n := by unfold PS.take; split <;> rfl
theorem give_n (p : PS) (i o : Int) : (p.give i o).1.n = p.n := by
  unfold PS.give
  repeat' split
  all_goals rfl
theorem lets_n (p : PS) (o : Int) : (p.lets o).n = p.n := rfl

theorem ctx_take_eq {W w : World} {b : Nat} {p p' : PS} {i x : Int} (h : Ctx W w b p) (o : Int) {N : Nat} (ht : p.tuLe N) (hN : N ≤ 1000000) (hr : p.take o = (p', i, x)) :
    Calls Try.prog 12 #[.pointer (some ⟨b, 0, none⟩), .int .i64 o] w fun e w' => e = .returned (.tuple #[.int .i64 i, .int .i64 x]) ∧ Ctx W w' b p' := by
  have := ctx_take h o ht hN
  rw [hr] at this
  exact this
theorem ctx_give_eq {W w : World} {b : Nat} {p p' : PS} {x : Int} (h : Ctx W w b p) (i o : Int) (hr : p.give i o = (p', x)) :
    Calls Try.prog 15 #[.pointer (some ⟨b, 0, none⟩), .int .i64 i, .int .i64 o] w fun e w' => e = .returned (.int .i64 x) ∧ Ctx W w' b p' := by
  have := ctx_give h i o
  rw [hr] at this
  exact this
theorem ctx_len {W w : World} {b : Nat} {p : PS} (h : Ctx W w b p) {m : Nat} (hn : p.n = m) :
    Calls Try.prog 16 #[.pointer (some ⟨b, 0, none⟩)] w fun e w' => e = .returned (.int .i64 m) ∧ w = w' := hn ▸ len_any b p w h.at_
theorem turn_lt (p : PS) (j : Nat) (h : j < p.n) : p.turn j = p.tu j := by
  unfold PS.turn; rw [if_neg (by omega), Int.toNat_natCast]
theorem turn_no (p : PS) (i : Int) (h : i < 0 ∨ (p.n : Int) ≤ i) : p.turn i = 0 := by
  unfold PS.turn; rw [if_pos h]
theorem ctx_turn_eq {W w : World} {b : Nat} {p : PS} (h : Ctx W w b p) (i : Int) {x : Int} (hr : p.turn i = x) :
    Calls Try.prog 13 #[.pointer (some ⟨b, 0, none⟩), .int .i64 i] w fun e w' => e = .returned (.int .i64 x) ∧ w = w' := hr ▸ ctx_turn h i

def q0 : PS := PS.new (slotsOf 2)
def q1 : PS := (q0.take 5).1
def q2 : PS := (q1.take 6).1
def q3 : PS := (q2.give 0 5).1
def q4 : PS := (q3.take 7).1
set_option maxHeartbeats 1600000 in
theorem lives_any (w : World) : Calls Try.prog 9 #[] w fun e w' => e = .returned (.bool true) ∧ Below w.heap.size w w' := by
  go_enter Try.func9, Try.ntmps9
  go_wp2_with fail
  refine (ctx_new 2 (Below.refl w.heap.size w)).mono ?_
  rintro e w1 ⟨rfl, c1⟩
  have t1 : q0.tuLe 0 := tuLe_new _ _
  go_wp2_with fail
  refine (ctx_take_eq (p' := q1) (i := 0) (x := 0) c1 5 t1 (by omega) (Prod.ext rfl (Prod.ext (by decide) (by decide)))).mono ?_
  rintro e w2 ⟨rfl, c2⟩
  go_wp2_with fail
  refine (ctx_take_eq (p' := q2) (i := 1) (x := 0) c2 6 (tuLe_take t1 5) (by omega) (Prod.ext rfl (Prod.ext (by decide) (by decide)))).mono ?_
  rintro e w3 ⟨rfl, c3⟩
  go_wp2_with fail
  refine (ctx_give_eq (p' := q3) (x := 0) c3 0 5 (Prod.ext rfl (by decide))).mono ?_
  rintro e w4 ⟨rfl, c4⟩
  go_wp2_with fail
  refine (ctx_take_eq (p' := q4) (i := 0) (x := 0) c4 7 (tuLe_give (tuLe_take (tuLe_take t1 5) 6) 0 5) (by omega) (Prod.ext rfl (Prod.ext (by decide) (by decide)))).mono ?_
  rintro e w5 ⟨rfl, c5⟩
  have C5 := Lib.hid c5
  clear c1 c2 c3 c4 c5 t1
  go_wp2_with (go_at_call 13; refine (ctx_turn_eq (x := 2) C5.out 0 (by decide)).mono ?_; rintro e w6 ⟨rfl, rfl⟩)
  go_ret
  exact ⟨rfl, C5.out.bel⟩
end Go.Proofs.Ytjmhdkcnllnekaa
