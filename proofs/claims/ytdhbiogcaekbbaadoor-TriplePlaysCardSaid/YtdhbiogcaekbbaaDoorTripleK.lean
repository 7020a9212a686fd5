/- The register of three slots: what the laws lean on, in plain Lean. -/
import Derived.Test.YtdhbiogcaekbbaaDoorTripleJ
namespace Go.Proofs.YtdhbiogcaekbbaaDoor
open Go.RowKit

def AllAt (s : TS) (k : Nat) (v : Int) : Prop := ∀ j, j < s.W → s.mem[1 + k * s.W + j]? = some v
structure Inv (s : TS) (begun over low last : Nat) : Prop where
  p1 : s.io ≠ s.oo
  p2 : s.io ≠ s.mid % 4
  p3 : s.oo ≠ s.mid % 4
  ex : ∃ vc vo : Nat, AllAt s (s.mid % 4) vc ∧ AllAt s s.oo vo ∧ vc ≤ over ∧ last ≤ vo ∧ vo ≤ over ∧ (4 ≤ s.mid → vc = over) ∧ (s.mid < 4 → vo = over) ∧ (s.oa = 3 → low ≤ vo ∧ s.ol = List.replicate s.ol.length (vo : Int))
  lo : low ≤ over
  ov : over ≤ begun
  wr : s.ia = 3 → s.il = List.replicate s.W (begun : Int) ∧ ∀ j, j < s.inn → s.mem[1 + s.io * s.W + j]? = some (begun : Int)
  sw : s.oa = 2 → 4 ≤ s.mid
theorem idx_ne {k k' W j j' : Nat} (hk : k ≤ 2) (hk' : k' ≤ 2) (hne : k ≠ k') (hj : j < W) (hj' : j' < W) : 1 + k * W + j ≠ 1 + k' * W + j' := by
  rcases (show k = 0 ∨ k = 1 ∨ k = 2 by omega) with rfl | rfl | rfl <;> rcases (show k' = 0 ∨ k' = 1 ∨ k' = 2 by omega) with rfl | rfl | rfl <;> omega
theorem mid_set {s : TS} (h : s.ok) (v : Nat) : ({ s with mem := s.mem.set 0 (v : Int) } : TS).mid = v := by
  have hp : 0 < s.mem.length := by rw [h.len]; omega
  simp [TS.mid, hp]
theorem all_set0 {s : TS} {k : Nat} {v : Int} (h : AllAt s k v) (u : Int) : ∀ j, j < s.W → (s.mem.set 0 u)[1 + k * s.W + j]? = some v := by
  intro j hj
  rw [List.getElem?_set_ne (by omega)]
  exact h j hj
def TS.newx (W x : Nat) : TS := { W := W, mem := List.replicate (1 + 3 * W) 0, ia := 0, io := 1, il := [], inn := 0, oa := 0, oo := 2, ol := [], x := x }
theorem newx_eq (W x : Nat) : ({ TS.new W with x := x } : TS) = TS.newx W x := rfl
theorem newx_all (W x k : Nat) (hk : k ≤ 2) : AllAt (TS.newx W x) k ((0 : Nat) : Int) := by
  intro j hj
  simp only [TS.newx] at hj ⊢
  have : k * W ≤ 2 * W := Nat.mul_le_mul hk (Nat.le_refl _)
  rw [List.getElem?_replicate, if_pos (by omega)]
  rfl
theorem inv_new (W x : Nat) : Inv (TS.newx W x) 0 0 0 0 := by
  have hm : (TS.newx W x).mid = 0 := by
    simp only [TS.mid, TS.newx, List.getElem?_replicate]
    rw [if_pos (by omega)]
    rfl
  exact ⟨by simp [TS.newx], by rw [hm]; simp [TS.newx], by rw [hm]; simp [TS.newx], ⟨0, 0, by rw [hm]; exact newx_all _ _ _ (by omega), newx_all _ _ _ (by simp [TS.newx]), Nat.le_refl _, Nat.le_refl _, Nat.le_refl _, fun e => rfl, fun _ => rfl, fun e => by simp [TS.newx] at e⟩, Nat.le_refl _, Nat.le_refl _, fun e => by simp [TS.newx] at e, fun e => by simp [TS.newx] at e⟩
section
variable {s : TS} {begun over low last : Nat}
theorem inv_up (h : Inv s begun over low last) (hia : s.ia = 0) : Inv s (begun + 1) over low last :=
  ⟨h.p1, h.p2, h.p3, h.ex, h.lo, by have := h.ov; omega, fun e => by omega, h.sw⟩
theorem inv_wrt (h : Inv s begun over low last) : Inv (s.wrt (List.replicate s.W (begun : Int))) begun over low last :=
  ⟨h.p1, h.p2, h.p3, h.ex, h.lo, h.ov, fun _ => ⟨rfl, fun j hj => by simp [TS.wrt] at hj⟩, h.sw⟩
theorem inv_rd (h : Inv s begun over low last) : Inv s.rd.1 begun over (if s.oa = 0 then over else low) last := by
  unfold TS.rd
  split
  · obtain ⟨vc, vo, a1, a2, a3, a4, a5, a6, a7, a8⟩ := h.ex
    exact ⟨h.p1, h.p2, h.p3, ⟨vc, vo, a1, a2, a3, a4, a5, a6, a7, fun e => by simp at e⟩, Nat.le_refl _, h.ov, h.wr, fun e => by simp at e⟩
  · exact h
theorem inv_drop (h : Inv s begun over low last) (x : Bool) : Inv (s.drop x).1 begun over low last := by
  cases x
  · simp only [TS.drop, TS.dropR]
    split
    · exact h
    · obtain ⟨vc, vo, a1, a2, a3, a4, a5, a6, a7, a8⟩ := h.ex
      exact ⟨h.p1, h.p2, h.p3, ⟨vc, vo, a1, a2, a3, a4, a5, a6, a7, fun e => by simp at e⟩, h.lo, h.ov, h.wr, fun e => by simp at e⟩
  · simp only [TS.drop, TS.dropW]
    split
    · exact h
    · exact ⟨h.p1, h.p2, h.p3, h.ex, h.lo, h.ov, fun e => by simp at e, h.sw⟩
theorem inv_stepW (h : Inv s begun over low last) (hf : s.fine) (hia : s.ia ≠ 0) : s.stepW.2.2.2 = 0 ∧ s.stepW.2.1 = [] ∧ Inv s.stepW.1 begun (if s.stepW.2.2.1 then begun else over) low last := by
  have hk := hf.ok
  have hm := ok_mid hk
  have h3 := hk.ia.resolve_left hia
  have hio := hk.io
  have hoo := hk.oo
  obtain ⟨vc, vo, a1, a2, a3, a4, a5, a6, a7, a8⟩ := h.ex
  unfold TS.stepW
  rw [if_neg hia]
  split
  · rename_i hn
    refine ⟨rfl, rfl, ?_⟩
    have hmid : ({ s with mem := s.mem.set (1 + s.io * s.W + s.inn) (s.il[s.inn]?.getD 0), inn := s.inn + 1 } : TS).mid = s.mid := by
      simp only [TS.mid]
      rw [List.getElem?_set_ne (by omega)]
    have hv : s.il[s.inn]?.getD 0 = (begun : Int) := by rw [(h.wr h3).1, List.getElem?_replicate, if_pos hn]; rfl
    have hi := ok_idx hk hn
    refine ⟨h.p1, by rw [hmid]; exact h.p2, by rw [hmid]; exact h.p3, ⟨vc, vo, ?_, ?_, a3, a4, a5, by rw [hmid]; exact a6, by rw [hmid]; exact a7, a8⟩, h.lo, h.ov, fun _ => ⟨(h.wr h3).1, ?_⟩, fun e => by rw [hmid]; exact h.sw e⟩
    · rw [hmid]
      intro j hj
      simp only [] at hj ⊢
      rw [List.getElem?_set_ne (idx_ne hio hm.2.2 h.p2 hn hj)]
      exact a1 j hj
    · intro j hj
      simp only [] at hj ⊢
      rw [List.getElem?_set_ne (idx_ne hio hoo h.p1 hn hj)]
      exact a2 j hj
    · intro j hj
      simp only [] at hj ⊢
      by_cases e : j = s.inn
      · subst e
        rw [List.getElem?_set_self hi, hv]
      · rw [List.getElem?_set_ne (by omega)]
        exact (h.wr h3).2 j (by omega)
  · rename_i hn
    refine ⟨rfl, rfl, ?_⟩
    have hmid : ({ s with mem := s.mem.set 0 ((s.io + 4 : Nat) : Int), io := s.mid % 4, ia := 0 } : TS).mid = s.io + 4 := mid_set hk (s.io + 4)
    have e4 : (s.io + 4) % 4 = s.io := by omega
    have hW : s.inn = s.W := by have := (hk.il h3).2.1; omega
    have hb := h.ov
    refine ⟨fun e => h.p3 e.symm, by rw [hmid, e4]; exact fun e => h.p2 e.symm, by rw [hmid, e4]; exact fun e => h.p1 e.symm, ⟨begun, vo, ?_, all_set0 a2 _, by simp, a4, by simp only [if_true]; omega, fun _ => by simp, fun e => by rw [hmid] at e; omega, a8⟩, by have := h.lo; simp only [if_true]; omega, by simp, fun e => by simp at e, fun e => by rw [hmid]; omega⟩
    rw [hmid, e4]
    have hA : AllAt s s.io begun := fun j hj => (h.wr h3).2 j (by omega)
    exact all_set0 hA _
theorem inv_stepR (h : Inv s begun over low last) (hf : s.fine) (hoa : s.oa ≠ 0) :
    s.stepR.2.2.2 = 0 ∧ (s.stepR.2.2.1 = false ∧ Inv s.stepR.1 begun over low last ∧ s.stepR.1.oa ≠ 0 ∨ s.stepR.2.2.1 = true ∧ ∃ vo : Nat, s.stepR.2.1 = List.replicate s.W (vo : Int) ∧ low ≤ vo ∧ vo ≤ over ∧ last ≤ vo ∧ Inv s.stepR.1 begun over low vo) := by
  have hk := hf.ok
  have hm := ok_mid hk
  have hio := hk.io
  have hoo := hk.oo
  have hlo := h.lo
  obtain ⟨vc, vo, a1, a2, a3, a4, a5, a6, a7, a8⟩ := h.ex
  unfold TS.stepR
  rw [if_neg hoa]
  split
  · rename_i h1
    have e := hf.o0 (.inl h1)
    refine ⟨rfl, .inl ⟨rfl, ⟨h.p1, h.p2, h.p3, ⟨vc, vo, a1, a2, a3, a4, a5, a6, a7, fun e3 => ?_⟩, h.lo, h.ov, h.wr, fun e2 => ?_⟩, ?_⟩⟩
    · have : s.mid < 4 := by
        simp only [] at e3
        split at e3 <;> omega
      have := a7 this
      exact ⟨by omega, by simp [e]⟩
    · show 4 ≤ s.mid
      simp only [] at e2
      split at e2 <;> omega
    · simp only []
      split <;> omega
  split
  · rename_i h1 h2
    have e := hf.o0 (.inr h2)
    have hmid : ({ s with mem := s.mem.set 0 (s.oo : Int), oo := s.mid % 4, oa := 3 } : TS).mid = s.oo := mid_set hk s.oo
    have e4 : s.oo % 4 = s.oo := by omega
    have hvc := a6 (h.sw h2)
    refine ⟨rfl, .inl ⟨rfl, ⟨h.p2, by rw [hmid, e4]; exact h.p1, by rw [hmid, e4]; exact fun e => h.p3 e.symm, ⟨vo, vc, ?_, all_set0 a1 _, a5, by omega, a3, fun e => by rw [hmid] at e; omega, fun _ => hvc, fun _ => ⟨by omega, by simp [e]⟩⟩, h.lo, h.ov, fun e3 => ⟨(h.wr e3).1, fun j hj => ?_⟩, fun e => by simp at e⟩, by simp⟩⟩
    · rw [hmid, e4]
      exact all_set0 a2 _
    · simp only [] at hj ⊢
      rw [List.getElem?_set_ne (by omega)]
      exact (h.wr e3).2 j hj
  have h3 : s.oa = 3 := by have := hk.oa; omega
  have hl := hk.ol h3
  have hx : s.next = (vo : Int) := by
    have := ok_next hk h3
    rw [a2 s.ol.length hl] at this
    exact (Option.some.inj this).symm
  have ha := a8 h3
  have happ : s.ol ++ [s.next] = List.replicate (s.ol.length + 1) (vo : Int) := by
    rw [hx, List.replicate_succ']
    exact congrArg (· ++ [(vo : Int)]) ha.2
  split
  · rename_i hlt
    refine ⟨rfl, .inl ⟨rfl, ⟨h.p1, h.p2, h.p3, ⟨vc, vo, a1, a2, a3, a4, a5, a6, a7, fun _ => ⟨ha.1, ?_⟩⟩, h.lo, h.ov, h.wr, h.sw⟩, hoa⟩⟩
    simp only []
    rw [happ, List.length_replicate]
  · have hW : s.ol.length + 1 = s.W := by omega
    refine ⟨rfl, .inr ⟨rfl, vo, by rw [happ, hW], ha.1, a5, a4, ⟨h.p1, h.p2, h.p3, ⟨vc, vo, a1, a2, a3, Nat.le_refl _, a5, a6, a7, fun e => by simp at e⟩, h.lo, h.ov, h.wr, fun e => by simp at e⟩⟩⟩
theorem step_x (s : TS) (x : Bool) : (s.step x).1.x = s.x ∧ (s.step x).1.W = s.W := by
  cases x
  · simp only [TS.step, TS.stepR]
    repeat' split
    all_goals exact ⟨rfl, rfl⟩
  · simp only [TS.step, TS.stepW]
    repeat' split
    all_goals exact ⟨rfl, rfl⟩
theorem drop_x (s : TS) (x : Bool) : (s.drop x).1.x = s.x ∧ (s.drop x).1.W = s.W := by
  cases x
  · simp only [TS.drop, TS.dropR]
    split <;> exact ⟨rfl, rfl⟩
  · simp only [TS.drop, TS.dropW]
    split <;> exact ⟨rfl, rfl⟩
theorem rd_x (s : TS) : s.rd.1.x = s.x ∧ s.rd.1.W = s.W := by
  simp only [TS.rd]
  split <;> exact ⟨rfl, rfl⟩
end
end Go.Proofs.YtdhbiogcaekbbaaDoor
