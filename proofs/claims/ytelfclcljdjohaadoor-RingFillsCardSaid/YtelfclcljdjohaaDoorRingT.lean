/- Messages through a ring: numbers that go through it, in plain Lean. -/
import Derived.Test.YtelfclcljdjohaaDoorRingS
namespace Go.Proofs.YtelfclcljdjohaaDoor
open Go.RowKit

theorem dist_eq {P a b : Nat} (h1 : b ≤ a) (h2 : a < b + 2 * P) : dist P (a % (2 * P)) (b % (2 * P)) = ((a - b : Nat) : Int) := by
  unfold dist
  rw [Int.natCast_emod, Int.natCast_emod, show ((2 * P : Nat) : Int) = 2 * (P : Int) by omega, ← Int.sub_emod]
  rw [Int.emod_eq_of_lt (by omega) (by omega)]
  omega
theorem mod_inj {P a b : Nat} (h1 : b ≤ a) (h2 : a < b + 2 * P) (h : a % (2 * P) = b % (2 * P)) : a = b := by
  have := dist_eq h1 h2
  rw [h] at this
  unfold dist at this
  simp at this
  omega
theorem mod_inj' {P a b : Nat} (h1 : b ≤ a) (h2 : a < b + P) (h : a % P = b % P) : a = b := by
  have e1 := Nat.div_add_mod a P
  have e2 := Nat.div_add_mod b P
  rw [h] at e1
  rcases Nat.lt_trichotomy (a / P) (b / P) with h' | h' | h'
  · have := Nat.mul_le_mul_left P (show a / P + 1 ≤ b / P from h')
    rw [Nat.mul_add] at this
    omega
  · rw [h'] at e1; omega
  · have := Nat.mul_le_mul_left P (show b / P + 1 ≤ a / P from h')
    rw [Nat.mul_add] at this
    omega
theorem next_mod (P a : Nat) : nextOf P (a % (2 * P)) = (a + 1) % (2 * P) := by unfold nextOf; rw [Nat.mod_add_mod]
theorem half_mod (P a : Nat) : a % (2 * P) % P = a % P := Nat.mod_mul_left_mod a 2 P
theorem slot_ne {W a b j k : Nat} (hj : j < W) (hk : k < W) (h : a ≠ b) : 2 + a * W + j ≠ 2 + b * W + k := by
  rcases Nat.lt_or_ge a b with h' | h'
  · have := Nat.mul_le_mul_right W (show a + 1 ≤ b from h')
    rw [Nat.add_mul] at this
    omega
  · have := Nat.mul_le_mul_right W (show b + 1 ≤ a by omega)
    rw [Nat.add_mul] at this
    omega
/-- The ring, how many went in, and out; what a law notes of who is under way. -/
structure FS where
  s : RS
  fin : Nat
  out : Nat
  full : Bool
  low : Bool
structure FInv (f : FS) : Prop where
  ok : f.s.ok
  d1 : f.out ≤ f.fin
  d2 : f.fin ≤ f.out + f.s.P
  t : f.s.tl = f.fin % (2 * f.s.P)
  h : f.s.hd = f.out % (2 * f.s.P)
  dat : ∀ m, f.out ≤ m → m < f.fin → ∀ j, j < f.s.W → f.s.mem[2 + m % f.s.P * f.s.W + j]? = some ((m : Int) + 1)
  a0 : f.s.ia ≠ 0 → f.s.il = List.replicate f.s.W ((f.fin : Int) + 1)
  az : f.s.ia = 1 ∨ f.s.ia = 2 → f.s.inn = 0
  a1 : f.s.ia = 1 → f.fin = f.out + f.s.P → f.full = true
  a2 : f.s.ia = 2 → ∃ o, o ≤ f.out ∧ f.fin ≤ o + f.s.P ∧ f.s.ih = o % (2 * f.s.P) ∧ (f.fin = o + f.s.P → f.full = true)
  a3 : f.s.ia = 3 → f.fin < f.out + f.s.P ∧ f.s.it = f.fin % (2 * f.s.P) ∧ ∀ j, j < f.s.inn → f.s.mem[2 + f.fin % f.s.P * f.s.W + j]? = some ((f.fin : Int) + 1)
  cz : f.s.oa = 1 ∨ f.s.oa = 2 → f.s.ol = []
  c1 : f.s.oa = 1 → f.fin = f.out → f.low = true
  c2 : f.s.oa = 2 → ∃ i, f.out ≤ i ∧ i ≤ f.fin ∧ f.s.ot = i % (2 * f.s.P) ∧ (i = f.out → f.low = true)
  c3 : f.s.oa = 3 → f.out < f.fin ∧ f.s.oh = f.out % (2 * f.s.P) ∧ f.s.ol = List.replicate f.s.ol.length ((f.out : Int) + 1)
def FS.begun (f : FS) : FS := if f.s.ia = 0 then { f with s := f.s.pushed (List.replicate f.s.W ((f.fin : Int) + 1)), full := decide (f.fin - f.out = f.s.P) } else f
def FS.asked (f : FS) : FS := if f.s.oa = 0 then { f with s := f.s.popped, low := decide (f.fin = f.out) } else f
def FS.stepW (f : FS) : FS := { f with s := f.s.stepW.1, fin := if f.s.stepW.2.1 = true ∧ f.s.stepW.2.2 = 0 then f.fin + 1 else f.fin }
def FS.stepR (f : FS) : FS := { f with s := f.s.stepR.1, out := if f.s.stepR.2.2.1 = true ∧ f.s.stepR.2.2.2 = 0 then f.out + 1 else f.out }
def FS.push (f : FS) : FS := f.begun.stepW
def FS.pop (f : FS) : FS := f.asked.stepR
def FS.dropped (f : FS) (x : Bool) : FS := { f with s := f.s.dropped x }
section
variable {f : FS}
theorem finv_count (h : FInv f) : dist f.s.P f.s.tl f.s.hd = ((f.fin - f.out : Nat) : Int) := by
  have hp := h.ok.p1
  have h1 := h.d1
  have h2 := h.d2
  rw [h.t, h.h, dist_eq h1 (by omega)]
theorem ok_pushed {s : RS} (k : s.ok) {l : List Int} (hl : l.length = s.W) (hr : ∀ x ∈ l, okWord x) : (s.pushed l).ok :=
  ⟨k.p1, k.p8, k.w1, k.w6, k.len, k.h, k.h2, k.t, k.t2, by simp [RS.pushed], k.oa, k.ih, k.it, k.oh, k.ot, by simp [RS.pushed], fun _ => ⟨hl, hr⟩, k.ol⟩
theorem ok_popped {s : RS} (k : s.ok) : s.popped.ok :=
  ⟨k.p1, k.p8, k.w1, k.w6, k.len, k.h, k.h2, k.t, k.t2, k.ia, by simp [RS.popped], k.ih, k.it, k.oh, k.ot, k.inn, k.il, by simp [RS.popped]⟩
theorem ok_rep {n k : Nat} (hk : k < 1000000) : ∀ x ∈ List.replicate n ((k : Int) + 1), okWord x := fun x hx => by
  have := (List.mem_replicate.1 hx).2
  subst this
  unfold okWord
  omega
theorem finv_begun (h : FInv f) (hb : f.fin < 1000000) : FInv f.begun ∧ f.begun.s.ia ≠ 0 := by
  unfold FS.begun
  split
  · exact ⟨⟨ok_pushed h.ok (by simp) (ok_rep hb), h.d1, h.d2, h.t, h.h, h.dat, fun _ => rfl, fun _ => rfl, fun _ e => decide_eq_true (show f.fin - f.out = f.s.P from by have e' : f.fin = f.out + f.s.P := e; omega), fun e => by simp [RS.pushed] at e, fun e => by simp [RS.pushed] at e, h.cz, h.c1, h.c2, h.c3⟩, by simp [RS.pushed]⟩
  · exact ⟨h, by assumption⟩
theorem finv_asked (h : FInv f) : FInv f.asked ∧ f.asked.s.oa ≠ 0 := by
  unfold FS.asked
  split
  · exact ⟨⟨ok_popped h.ok, h.d1, h.d2, h.t, h.h, h.dat, h.a0, h.az, h.a1, h.a2, h.a3, fun _ => rfl, fun _ e => by simpa using e, fun e => by simp [RS.popped] at e, fun e => by simp [RS.popped] at e⟩, by simp [RS.popped]⟩
  · exact ⟨h, by assumption⟩
theorem finv_dropped (h : FInv f) (x : Bool) : FInv (f.dropped x) := by
  cases x
  · exact ⟨ok_dropped h.ok false, h.d1, h.d2, h.t, h.h, h.dat, h.a0, h.az, h.a1, h.a2, h.a3, fun e => by simp [FS.dropped, RS.dropped] at e, fun e => by simp [FS.dropped, RS.dropped] at e, fun e => by simp [FS.dropped, RS.dropped] at e, fun e => by simp [FS.dropped, RS.dropped] at e⟩
  · exact ⟨ok_dropped h.ok true, h.d1, h.d2, h.t, h.h, h.dat, fun e => by simp [FS.dropped, RS.dropped] at e, fun e => by simp [FS.dropped, RS.dropped] at e, fun e => by simp [FS.dropped, RS.dropped] at e, fun e => by simp [FS.dropped, RS.dropped] at e, fun e => by simp [FS.dropped, RS.dropped] at e, h.cz, h.c1, h.c2, h.c3⟩
theorem finv_stepW (h : FInv f) (hia : f.s.ia ≠ 0) : FInv f.stepW ∧ (f.s.stepW.2.2 = 0 ∨ f.s.stepW.2.1 = true ∧ f.s.stepW.2.2 = 2 ∧ f.full = true) := by
  have hok := ok_stepW h.ok
  have hl := ok_len2 h.ok
  have hp := h.ok.p1
  have hd1 := h.d1
  have hd2 := h.d2
  have hi3 := h.ok.ia
  unfold FS.stepW
  unfold RS.stepW at hok ⊢
  rw [if_neg hia] at hok ⊢
  split
  · rename_i h1
    rw [if_pos h1] at hok
    exact ⟨⟨hok, h.d1, h.d2, h.t, h.h, h.dat, fun _ => h.a0 hia, fun _ => h.az (.inl h1), fun e => by simp at e, fun _ => ⟨f.out, Nat.le_refl _, h.d2, h.h, h.a1 h1⟩, fun e => by simp at e, h.cz, h.c1, h.c2, h.c3⟩, .inl rfl⟩
  rename_i h1
  rw [if_neg h1] at hok
  split
  · rename_i h2
    rw [if_pos h2] at hok
    obtain ⟨o, ho1, ho2, ho3, ho4⟩ := h.a2 h2
    have hde : dist f.s.P f.s.tl f.s.ih = ((f.fin - o : Nat) : Int) := by rw [h.t, ho3, dist_eq (by omega) (by omega)]
    rw [hde] at hok ⊢
    have hz := h.az (.inr h2)
    split
    · rename_i hd
      rw [if_pos hd] at hok
      exact ⟨⟨hok, h.d1, h.d2, h.t, h.h, h.dat, fun e => by simp at e, fun e => by simp at e, fun e => by simp at e, fun e => by simp at e, fun e => by simp at e, h.cz, h.c1, h.c2, h.c3⟩, .inr ⟨rfl, rfl, ho4 (by omega)⟩⟩
    · rename_i hd
      rw [if_neg hd] at hok
      exact ⟨⟨hok, h.d1, h.d2, h.t, h.h, h.dat, fun _ => h.a0 hia, fun e => by simp at e, fun e => by simp at e, fun e => by simp at e, fun _ => ⟨by simp; omega, h.t, fun j hj => by simp only [hz] at hj; omega⟩, h.cz, h.c1, h.c2, h.c3⟩, .inl rfl⟩
  rename_i h2
  rw [if_neg h2] at hok
  have h3 : f.s.ia = 3 := by omega
  obtain ⟨ha1, ha2, ha3⟩ := h.a3 h3
  split
  · rename_i hn
    rw [if_pos hn] at hok
    have hv : f.s.il[f.s.inn]?.getD 0 = (f.fin : Int) + 1 := by rw [h.a0 hia, List.getElem?_replicate, if_pos hn]; rfl
    have hpl : f.s.it % f.s.P = f.fin % f.s.P := by rw [ha2, half_mod]
    rw [hv, hpl] at hok ⊢
    have hlen := h.ok.len
    have hlt : 2 + f.fin % f.s.P * f.s.W + f.s.inn < f.s.mem.length := by rw [hlen]; exact idx_lt hp hn
    have e0 : ({ f.s with mem := f.s.mem.set (2 + f.fin % f.s.P * f.s.W + f.s.inn) ((f.fin : Int) + 1), inn := f.s.inn + 1 } : RS).hd = f.s.hd := by
      simp only [RS.hd]; rw [List.getElem?_set_ne (by omega)]
    have e1 : ({ f.s with mem := f.s.mem.set (2 + f.fin % f.s.P * f.s.W + f.s.inn) ((f.fin : Int) + 1), inn := f.s.inn + 1 } : RS).tl = f.s.tl := by
      simp only [RS.tl]; rw [List.getElem?_set_ne (by omega)]
    refine ⟨⟨hok, h.d1, h.d2, by rw [e1]; exact h.t, by rw [e0]; exact h.h, ?_, fun _ => h.a0 hia, fun e => by simp only [] at e; omega, fun e => by simp only [] at e; omega, fun e => by simp only [] at e; omega, fun _ => ⟨ha1, ha2, ?_⟩, h.cz, h.c1, h.c2, h.c3⟩, .inl rfl⟩
    · intro m hm1 hm2 j hj
      simp only [] at hm1 hm2 hj ⊢
      simp only [Bool.false_eq_true, false_and, if_false] at hm2
      rw [List.getElem?_set_ne (slot_ne hn hj (fun e => by have := mod_inj' (by omega) (by omega) e; omega))]
      exact h.dat m hm1 hm2 j hj
    · intro j hj
      simp only [Bool.false_eq_true, false_and, if_false] at hj ⊢
      by_cases e : j = f.s.inn
      · subst e
        rw [List.getElem?_set_self hlt]
      · rw [List.getElem?_set_ne (by omega)]
        exact ha3 j (by omega)
  · rename_i hn
    rw [if_neg hn] at hok
    have hinn : f.s.inn = f.s.W := by have := h.ok.inn; omega
    have e0 : ({ f.s with mem := f.s.mem.set 1 ((nextOf f.s.P f.s.it : Nat) : Int), ia := 0 } : RS).hd = f.s.hd := by
      simp only [RS.hd]; rw [List.getElem?_set_ne (by omega)]
    have e1 : ({ f.s with mem := f.s.mem.set 1 ((nextOf f.s.P f.s.it : Nat) : Int), ia := 0 } : RS).tl = nextOf f.s.P f.s.it := by
      simp only [RS.tl]; rw [List.getElem?_set_self (by omega)]; simp
    refine ⟨⟨hok, ?_, ?_, ?_, by rw [e0]; exact h.h, ?_, fun e => by simp at e, fun e => by simp at e, fun e => by simp at e, fun e => by simp at e, fun e => by simp at e, h.cz, ?_, ?_, ?_⟩, .inl rfl⟩
    · simp; omega
    · simp; omega
    · rw [e1, ha2, next_mod]; simp
    · intro m hm1 hm2 j hj
      simp only [true_and, if_true] at hm1 hm2 hj ⊢
      rw [List.getElem?_set_ne (by omega)]
      rcases Nat.lt_or_ge m f.fin with h' | h'
      · exact h.dat m hm1 h' j hj
      · have : m = f.fin := by omega
        subst this
        exact ha3 j (by omega)
    · intro _ e
      simp at e
      omega
    · intro e
      obtain ⟨i, i1, i2, i3, i4⟩ := h.c2 e
      exact ⟨i, i1, by simp; omega, i3, i4⟩
    · intro e
      obtain ⟨i1, i2, i3⟩ := h.c3 e
      exact ⟨by simp; omega, i2, i3⟩
theorem finv_stepR (h : FInv f) (hoa : f.s.oa ≠ 0) : FInv f.stepR ∧ (f.s.stepR.2.2.2 = 0 ∨ f.s.stepR.2.2.1 = true ∧ f.s.stepR.2.2.2 = 2 ∧ f.low = true) ∧ (f.s.stepR.2.2.1 = true → f.s.stepR.2.2.2 = 0 → f.s.stepR.2.1 = List.replicate f.s.W ((f.out : Int) + 1)) := by
  have hok := ok_stepR h.ok
  have hl := ok_len2 h.ok
  have hp := h.ok.p1
  have hd1 := h.d1
  have hd2 := h.d2
  have hi3 := h.ok.oa
  unfold FS.stepR
  unfold RS.stepR at hok ⊢
  rw [if_neg hoa] at hok ⊢
  split
  · rename_i h1
    rw [if_pos h1] at hok
    exact ⟨⟨hok, h.d1, h.d2, h.t, h.h, h.dat, h.a0, h.az, h.a1, h.a2, h.a3, fun _ => h.cz (.inl h1), fun e => by simp at e, fun _ => ⟨f.fin, h.d1, Nat.le_refl _, h.t, h.c1 h1⟩, fun e => by simp at e⟩, .inl rfl, fun e => by simp at e⟩
  rename_i h1
  rw [if_neg h1] at hok
  split
  · rename_i h2
    rw [if_pos h2] at hok
    obtain ⟨i, hi1, hi2, hi3, hi4⟩ := h.c2 h2
    have hz := h.cz (.inr h2)
    split
    · rename_i hd
      rw [if_pos hd] at hok
      have hio : i = f.out := mod_inj (P := f.s.P) hi1 (by omega) (by rw [← hi3, ← h.h]; exact hd.symm)
      exact ⟨⟨hok, h.d1, h.d2, h.t, h.h, h.dat, h.a0, h.az, h.a1, h.a2, h.a3, fun e => by simp at e, fun e => by simp at e, fun e => by simp at e, fun e => by simp at e⟩, .inr ⟨rfl, rfl, hi4 hio⟩, fun _ e => by simp at e⟩
    · rename_i hd
      rw [if_neg hd] at hok
      have hio : i ≠ f.out := fun e => hd (by rw [hi3, h.h, e])
      exact ⟨⟨hok, h.d1, h.d2, h.t, h.h, h.dat, h.a0, h.az, h.a1, h.a2, h.a3, fun e => by simp at e, fun e => by simp at e, fun e => by simp at e, fun _ => ⟨by simp; omega, h.h, by simp only [hz]; rfl⟩⟩, .inl rfl, fun e => by simp at e⟩
  rename_i h2
  rw [if_neg h2] at hok
  have h3 : f.s.oa = 3 := by omega
  obtain ⟨ha1, ha2, ha3⟩ := h.c3 h3
  split
  · rename_i hn
    rw [if_pos hn] at hok
    have hpl : f.s.oh % f.s.P = f.out % f.s.P := by rw [ha2, half_mod]
    have hw : f.s.word = (f.out : Int) + 1 := by
      unfold RS.word
      rw [hpl, h.dat f.out (Nat.le_refl _) ha1 _ hn]
      rfl
    rw [hw] at hok ⊢
    refine ⟨⟨hok, h.d1, h.d2, h.t, h.h, h.dat, h.a0, h.az, h.a1, h.a2, h.a3, fun e => by simp only [] at e; omega, fun e => by simp only [] at e; omega, fun e => by simp only [] at e; omega, fun _ => ⟨by simp; omega, ha2, ?_⟩⟩, .inl rfl, fun e => by simp at e⟩
    simp only [List.length_append, List.length_singleton, Bool.false_eq_true, false_and, if_false]
    rw [List.replicate_succ', ← ha3]
  · rename_i hn
    rw [if_neg hn] at hok
    have hol : f.s.ol.length = f.s.W := by have := h.ok.ol; omega
    have e0 : ({ f.s with mem := f.s.mem.set 0 ((nextOf f.s.P f.s.oh : Nat) : Int), oa := 0 } : RS).hd = nextOf f.s.P f.s.oh := by
      simp only [RS.hd]; rw [List.getElem?_set_self (by omega)]; simp
    have e1 : ({ f.s with mem := f.s.mem.set 0 ((nextOf f.s.P f.s.oh : Nat) : Int), oa := 0 } : RS).tl = f.s.tl := by
      simp only [RS.tl]; rw [List.getElem?_set_ne (by omega)]
    refine ⟨⟨hok, ?_, ?_, by rw [e1]; exact h.t, ?_, ?_, h.a0, h.az, ?_, ?_, ?_, fun e => by simp at e, fun e => by simp at e, fun e => by simp at e, fun e => by simp at e⟩, .inl rfl, fun _ _ => by rw [ha3, hol]⟩
    · simp; omega
    · simp; omega
    · rw [e0, ha2, next_mod]; simp
    · intro m hm1 hm2 j hj
      simp only [true_and, if_true] at hm1 hm2 hj ⊢
      rw [List.getElem?_set_ne (by omega)]
      exact h.dat m (by omega) hm2 j hj
    · intro _ e
      simp at e
      omega
    · intro e
      obtain ⟨i, i1, i2, i3, i4⟩ := h.a2 e
      exact ⟨i, by simp; omega, i2, i3, i4⟩
    · intro e
      obtain ⟨i1, i2, i3⟩ := h.a3 e
      refine ⟨by simp; omega, i2, fun j hj => ?_⟩
      simp only [] at hj ⊢
      rw [List.getElem?_set_ne (by omega)]
      exact i3 j hj
end
end Go.Proofs.YtelfclcljdjohaaDoor
