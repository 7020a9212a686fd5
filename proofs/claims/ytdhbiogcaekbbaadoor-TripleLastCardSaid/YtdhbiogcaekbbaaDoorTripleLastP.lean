/- TripleLast: the plain law. -/
import Derived.Test.YtdhbiogcaekbbaaDoorTripleOdd
namespace Go.Proofs.YtdhbiogcaekbbaaDoor
open Go.RowKit

def ListAt (s : TS) (k : Nat) (l : List Int) : Prop := ∀ j, j < s.W → s.mem[1 + k * s.W + j]? = l[j]?
structure Perm (s : TS) : Prop where
  p1 : s.io ≠ s.oo
  p2 : s.io ≠ s.mid % 4
  p3 : s.oo ≠ s.mid % 4
/-- The last message: in the middle, and fresh; or the reader's own. -/
def CT (s : TS) (l : List Int) : Prop := 4 ≤ s.mid ∧ ListAt s (s.mid % 4) l ∨ s.mid < 4 ∧ ListAt s s.oo l
/-- k accesses of a write of l are over. -/
structure LW (s : TS) (l : List Int) (k : Nat) : Prop where
  p : Perm s
  oa : s.oa = 0
  st : s.ia = 3 ∧ s.il = l ∧ s.inn = k ∧ (∀ j, j < k → s.mem[1 + s.io * s.W + j]? = l[j]?) ∨ s.ia = 0 ∧ k = s.W + 1 ∧ 4 ≤ s.mid ∧ ListAt s (s.mid % 4) l
/-- k accesses of a read are over; l is the last message, and r what the last access told. -/
structure LR (s : TS) (l r : List Int) (k : Nat) : Prop where
  p : Perm s
  ia : s.ia = 0
  st : s.oa = 1 ∧ k = 0 ∧ CT s l ∨ s.oa = 2 ∧ k = 1 ∧ 4 ≤ s.mid ∧ ListAt s (s.mid % 4) l ∨ s.oa = 3 ∧ k ≤ s.ol.length + 2 ∧ s.mid < 4 ∧ ListAt s s.oo l ∧ s.ol = l.take s.ol.length ∨ s.oa = 0 ∧ s.mid < 4 ∧ ListAt s s.oo l ∧ r = l
section
variable {s : TS} {l r : List Int} {k : Nat}
theorem list_set0 (h : ListAt s k l) (u : Int) : ∀ j, j < s.W → (s.mem.set 0 u)[1 + k * s.W + j]? = l[j]? := by
  intro j hj
  rw [List.getElem?_set_ne (by omega)]
  exact h j hj
theorem perm_newx (W x : Nat) : Perm (TS.newx W x) := ⟨(inv_new W x).p1, (inv_new W x).p2, (inv_new W x).p3⟩
theorem lw_wrt (hp : Perm s) (hoa : s.oa = 0) : LW (s.wrt l) l 0 := ⟨⟨hp.p1, hp.p2, hp.p3⟩, hoa, .inl ⟨rfl, rfl, rfl, fun j hj => by omega⟩⟩
theorem lw_step (h : LW s l k) (hf : s.fine) (hl : l.length = s.W) (hia : s.ia ≠ 0) : k ≤ s.W ∧ s.stepW.2.2.2 = 0 ∧ s.stepW.2.1 = [] ∧ LW s.stepW.1 l (k + 1) := by
  have hk := hf.ok
  have hm := ok_mid hk
  have h3 := hk.ia.resolve_left hia
  have hio := hk.io
  obtain ⟨_, hil, hin, hd⟩ := h.st.resolve_right (fun e => hia e.1)
  have hkW : k ≤ s.W := by have := (hk.il h3).2.1; omega
  refine ⟨hkW, ?_⟩
  unfold TS.stepW
  rw [if_neg hia]
  split
  · rename_i hn
    have hmid : ({ s with mem := s.mem.set (1 + s.io * s.W + s.inn) (s.il[s.inn]?.getD 0), inn := s.inn + 1 } : TS).mid = s.mid := by
      simp only [TS.mid]
      rw [List.getElem?_set_ne (by omega)]
    have hi := ok_idx hk hn
    refine ⟨rfl, rfl, ⟨⟨h.p.p1, by rw [hmid]; exact h.p.p2, by rw [hmid]; exact h.p.p3⟩, h.oa, .inl ⟨h3, hil, by simp only []; omega, fun j hj => ?_⟩⟩⟩
    simp only []
    by_cases e : j = s.inn
    · subst e
      rw [List.getElem?_set_self hi, hil, List.getElem?_eq_getElem (by omega)]
      rfl
    · rw [List.getElem?_set_ne (by omega)]
      exact hd j (by omega)
  · rename_i hn
    have hmid : ({ s with mem := s.mem.set 0 ((s.io + 4 : Nat) : Int), io := s.mid % 4, ia := 0 } : TS).mid = s.io + 4 := mid_set hk (s.io + 4)
    have e4 : (s.io + 4) % 4 = s.io := by omega
    have hA : ListAt s s.io l := fun j hj => hd j (by omega)
    refine ⟨rfl, rfl, ⟨⟨fun e => h.p.p3 e.symm, by rw [hmid, e4]; exact fun e => h.p.p2 e.symm, by rw [hmid, e4]; exact fun e => h.p.p1 e.symm⟩, h.oa, .inr ⟨rfl, by simp only []; omega, by rw [hmid]; omega, ?_⟩⟩⟩
    rw [hmid, e4]
    exact list_set0 hA _
theorem lr_rd (hp : Perm s) (hia : s.ia = 0) (hoa : s.oa = 0) (h : CT s l) : LR s.rd.1 l r 0 := by
  unfold TS.rd
  rw [if_pos hoa]
  exact ⟨⟨hp.p1, hp.p2, hp.p3⟩, hia, .inl ⟨rfl, rfl, h⟩⟩
theorem lr_step (h : LR s l r k) (hf : s.fine) (hl : l.length = s.W) (hoa : s.oa ≠ 0) : k ≤ s.W + 1 ∧ s.stepR.2.2.2 = 0 ∧ LR s.stepR.1 l s.stepR.2.1 (k + 1) := by
  have hk := hf.ok
  have hm := ok_mid hk
  have hoo := hk.oo
  have hw1 := hk.w1
  unfold TS.stepR
  rw [if_neg hoa]
  rcases h.st with ⟨h1, hk0, hc⟩ | ⟨h1, hk0, hc, hd⟩ | ⟨h1, hk0, hc, hd, he⟩ | ⟨h1, _⟩
  · rw [if_pos h1]
    have e := hf.o0 (.inl h1)
    refine ⟨by omega, rfl, ⟨⟨h.p.p1, h.p.p2, h.p.p3⟩, h.ia, ?_⟩⟩
    rcases hc with ⟨c1, c2⟩ | ⟨c1, c2⟩
    · exact .inr (.inl ⟨by simp only []; rw [if_pos c1], by omega, c1, c2⟩)
    · exact .inr (.inr (.inl ⟨by simp only []; rw [if_neg (by omega)], by simp only [e, List.length_nil]; omega, c1, c2, by simp [e]⟩))
  · rw [if_neg (by omega), if_pos h1]
    have e := hf.o0 (.inr h1)
    have hmid : ({ s with mem := s.mem.set 0 (s.oo : Int), oo := s.mid % 4, oa := 3 } : TS).mid = s.oo := mid_set hk s.oo
    have e4 : s.oo % 4 = s.oo := by omega
    exact ⟨by omega, rfl, ⟨⟨h.p.p2, by rw [hmid, e4]; exact h.p.p1, by rw [hmid, e4]; exact fun e => h.p.p3 e.symm⟩, h.ia, .inr (.inr (.inl ⟨rfl, by simp only [e, List.length_nil]; omega, by rw [hmid]; omega, list_set0 hd _, by simp [e]⟩))⟩⟩
  · rw [if_neg (by omega), if_neg (by omega)]
    have hol := hk.ol h1
    have hx : s.next = l[s.ol.length] := by
      have := ok_next hk h1
      rw [hd s.ol.length hol, List.getElem?_eq_getElem (by omega)] at this
      exact (Option.some.inj this).symm
    have happ : s.ol ++ [s.next] = l.take (s.ol.length + 1) := by
      rw [hx, List.take_add_one, List.getElem?_eq_getElem (by omega)]
      exact congrArg (· ++ [l[s.ol.length]]) he
    refine ⟨by omega, ?_⟩
    split
    · exact ⟨rfl, ⟨⟨h.p.p1, h.p.p2, h.p.p3⟩, h.ia, .inr (.inr (.inl ⟨h1, by simp only [List.length_append, List.length_singleton]; omega, hc, hd, by simp only [List.length_append, List.length_singleton]; exact happ⟩))⟩⟩
    · refine ⟨rfl, ⟨⟨h.p.p1, h.p.p2, h.p.p3⟩, h.ia, .inr (.inr (.inr ⟨rfl, hc, hd, ?_⟩))⟩⟩
      simp only []
      rw [happ, List.take_of_length_le (by omega)]
  · exact absurd h1 hoa
end
end Go.Proofs.YtdhbiogcaekbbaaDoor
