/- A sampling port: the laws' invariants, in plain Lean. -/
import Derived.Test.YtmcelldklmjlkaaDoorSampP
import Derived.Test.YtmcelldklmjlkaaDoorSampM
namespace Go.Proofs.YtmcelldklmjlkaaDoor
open Go.RowKit

/-- Message x of the laws: its number, its stamp, its words. -/
def mOf (D : Nat → Nat → Int) (T : Nat → Int) (x j : Nat) : Int := if x = 0 then 0 else if j = 0 then (x : Int) else if j = 1 then T x else D x (j - 2)
theorem mOf0 (D : Nat → Nat → Int) (T : Nat → Int) (j : Nat) : mOf D T 0 j = 0 := rfl
theorem msg_cons2 (M : Nat → Nat → Int) (x n : Nat) : msg M x (n + 2) = M x 0 :: M x 1 :: (List.range n).map (fun j => M x (j + 2)) := by
  apply List.ext_getElem?
  intro i
  match i with
  | 0 => simp [msg]
  | 1 => simp [msg]
  | i + 2 =>
    by_cases h : i < n
    · simp [msg, h]
    · simp [msg, h]
/-- What is read of message x. -/
theorem val_msg (D : Nat → Nat → Int) (T : Nat → Int) (x n : Nat) (f now : Int) (hn : 1 ≤ n) :
    valOf f (msg (mOf D T) x (n + 2)) now = if x = 0 then SV.none else ⟨(List.range n).map (D x), x, T x, true, decide (ageI now (T x) ≤ f)⟩ := by
  unfold valOf
  rw [msg_cons2]
  by_cases h : x = 0
  · subst h
    rw [if_pos rfl, if_pos (.inr rfl)]
  · rw [if_neg h, if_neg (by simp [mOf, h]; omega)]
    have e : (List.range n).map (fun j => mOf D T x (j + 2)) = (List.range n).map (D x) := List.map_congr_left fun j _ => by simp [mOf, h]
    simp only [List.drop_succ_cons, List.drop_zero, List.getElem?_cons_zero, List.getElem?_cons_succ, Option.getD_some, e]
    simp [mOf, h]
/-- The port behind begun writes: the register has whole messages. -/
structure PInv (D : Nat → Nat → Int) (F : Prop) (p : SP) (T : Nat → Int) (begun over low last i : Nat) : Prop where
  inv : ∃ v vr, MInv (mOf D T) p.s begun over low v vr ∧ (F → Fwd p.s last v vr)
  q : p.q = begun
  ok : p.ok
  sok : p.s.ok
  t : ∀ x, x ≤ begun → 0 ≤ T x ∧ T x ≤ i
  b : begun ≤ i
section
variable {D : Nat → Nat → Int} {F : Prop} {p : SP} {T : Nat → Int} {begun over low last i : Nat}
theorem pinv_new (D : Nat → Nat → Int) (F : Prop) (n : Nat) (f : Int) (h1 : 1 ≤ n) (h4 : n ≤ 4) : PInv D F (SP.new n f) (fun _ => 0) 0 0 0 0 0 :=
  ⟨⟨_, _, minv_new (mOf0 _ _) (n + 2), fun _ => fwd_new _⟩, rfl, sok_new n f h1 h4, ok_new _ (by omega) (by omega), fun x _ => ⟨Int.le_refl _, by simp⟩, Nat.le_refl _⟩
theorem pinv_tick (h : PInv D F p T begun over low last i) : PInv D F p T begun over low last (i + 1) :=
  ⟨h.inv, h.q, h.ok, h.sok, fun x hx => ⟨(h.t x hx).1, by have := (h.t x hx).2; omega⟩, by have := h.b; omega⟩
/-- A write begins. -/
theorem pinv_wr (h : PInv D F p T begun over low last i) (hi : i ≤ 400) (hiw : p.s.iw = 0) (l : List Int) (hl : l = (List.range p.n).map (D (begun + 1))) (hk : allOk l) :
    p.wr l i = ({ p with q := ((begun + 1 : Nat) : Int), s := p.s.wrt (p.mes l i) }, 0) ∧ ∀ T' : Nat → Int, (∀ x, x ≤ begun → T' x = T x) → T' (begun + 1) = (i : Int) → PInv D F (p.wr l i).1 T' (begun + 1) over low last (i + 1) := by
  have hb := h.b
  have hq := h.q
  have hnx : p.nx = ((begun + 1 : Nat) : Int) := by
    unfold SP.nx
    rw [hq]
    omega
  have hc : min (cut (i : Int)) 2147483647 = (i : Int) := by unfold cut; omega
  have hll : l.length = p.n := by rw [hl]; simp
  have hm : p.mes l i = ((begun + 1 : Nat) : Int) :: (i : Int) :: l := by unfold SP.mes; rw [hnx, hc]
  have hlen : (p.mes l i).length = p.s.W := by rw [hm, h.ok.W]; simp [hll]
  have hok : allOk (p.mes l i) := by
    rw [hm]
    intro v hv
    rcases List.mem_cons.1 hv with rfl | hv
    · unfold okWord; omega
    rcases List.mem_cons.1 hv with rfl | hv
    · unfold okWord; omega
    · exact hk v hv
  have hw : p.s.wr (p.mes l i) = (p.s.wrt (p.mes l i), 0) := by unfold FS.wr; rw [if_pos ⟨hlen, hok⟩, if_pos hiw]
  have e : p.wr l i = ({ p with q := ((begun + 1 : Nat) : Int), s := p.s.wrt (p.mes l i) }, 0) := by
    unfold SP.wr
    rw [if_pos hll, hw, hnx]
    rfl
  refine ⟨e, fun T' hT hT1 => ?_⟩
  rw [e]
  obtain ⟨v, vr, hI, hF⟩ := h.inv
  have hI2 : MInv (mOf D T') p.s begun over low v vr := minv_congr (fun x hx j => by unfold mOf; rw [hT x hx]) hI
  have hI3 := minv_wrt (minv_up hI2 hiw)
  have em : p.mes l i = msg (mOf D T') (begun + 1) p.s.W := by
    rw [h.ok.W, msg_cons2, hm, hl]
    have e : (List.range p.n).map (fun j => mOf D T' (begun + 1) (j + 2)) = (List.range p.n).map (D (begun + 1)) := List.map_congr_left fun j _ => by simp [mOf]
    rw [e]
    simp [mOf, hT1]
  rw [← em] at hI3
  have hso := sok_wr h.ok l i
  rw [e] at hso
  exact ⟨⟨v, vr, hI3, fun hf => fwd_wrt (hF hf) _⟩, rfl, hso, ok_wrt h.sok hlen hok, fun x hx => by
    by_cases ex : x = begun + 1
    · subst ex; rw [hT1]; omega
    · rw [hT x (by omega)]; have := h.t x (by omega); omega, by omega⟩
theorem pinv_rd (h : PInv D F p T begun over low last i) (how : p.s.ow = 0) : p.rd.2 = 0 ∧ PInv D F p.rd.1 T begun over over last i := by
  obtain ⟨v, vr, hI, hF⟩ := h.inv
  exact ⟨by unfold SP.rd FS.rd; rw [if_pos how], ⟨v, vr, minv_rd hI how, fun hf => fwd_rd (hF hf) how⟩, h.q, sok_rd h.ok, ok_rd h.sok, h.t, h.b⟩
theorem pinv_drp (h : PInv D False p T begun over low last i) (x : Bool) : PInv D False (p.drp x) T begun over low last i := by
  obtain ⟨v, vr, hI, -⟩ := h.inv
  exact ⟨⟨v, vr, minv_drop hI x, fun e => e.elim⟩, h.q, sok_drp h.ok x, ok_drop h.sok x, h.t, h.b⟩
theorem pinv_stepW (h : PInv D F p T begun over low last i) (h0 : p.s.iw ≠ 0) : (p.s.step true).2.2 = (decide (p.s.iw = 1), 0) ∧ PInv D F (p.stp true) T begun (if p.s.iw = 1 then begun else over) low last i := by
  obtain ⟨v, vr, hI, hF⟩ := h.inv
  refine ⟨?_, ⟨_, _, minv_stepW hI h.sok h0, fun hf => fwd_stepW (hF hf) hI h.sok h0⟩, h.q, sok_stp h.ok true, ok_step h.sok true, h.t, h.b⟩
  show (FS.stepW p.s).2.2 = _
  unfold FS.stepW
  rw [if_neg h0]
/-- The reader's access; what it told, if it was the last one. -/
theorem pinv_stepR (h : PInv D F p T begun over low last i) (h0 : p.s.ow ≠ 0) : (p.s.step false).2.2 = (decide (p.s.ow = 1), 0) ∧ PInv D F (p.stp false) T begun over low last i ∧
    (p.s.ow = 1 → ∃ vo : Nat, p.val false i = (if vo = 0 then SV.none else ⟨(List.range p.n).map (D vo), vo, T vo, true, decide (ageI i (T vo) ≤ p.f)⟩) ∧ low ≤ vo ∧ vo ≤ begun ∧ (F → last ≤ vo) ∧ PInv D F (p.stp false) T begun over low vo i) := by
  obtain ⟨v, vr, hI, hF⟩ := h.inv
  have e1 : (p.s.step false).2.2 = (decide (p.s.ow = 1), 0) := by
    show (FS.stepR p.s).2.2 = _
    unfold FS.stepR
    rw [if_neg h0]
  refine ⟨e1, ⟨⟨_, _, minv_stepR hI h.sok h0, fun hf => fwd_stepR (hF hf) hI h.sok h0⟩, h.q, sok_stp h.ok false, ok_step h.sok false, h.t, h.b⟩, fun how => ?_⟩
  obtain ⟨a1, a2, a3⟩ := minv_told hI h.sok how
  refine ⟨_, ?_, a2, a3, fun hf => (fwd_told (hF hf) hI h.sok how).1, ⟨⟨v, _, minv_stepR hI h.sok h0, fun hf => (fwd_told (hF hf) hI h.sok how).2⟩, h.q, sok_stp h.ok false, ok_step h.sok false, h.t, h.b⟩⟩
  unfold SP.val
  rw [if_pos ⟨by rw [e1]; simp [how], rfl⟩]
  have e2 : (p.s.step false).2.1 = msg (mOf D T) (nextR p.s v vr) (p.n + 2) := by
    rw [← h.ok.W, ← a1]
    show (FS.stepR p.s).2.1 = _
    unfold FS.stepR
    rw [if_neg h0]
    simp [how]
  rw [e2, val_msg _ _ _ _ _ _ h.ok.n1]
theorem pinv_last (h : PInv D F p T begun over low last i) (hf : F) : last ≤ begun := by
  obtain ⟨v, vr, hI, hF⟩ := h.inv
  exact Nat.le_trans (hF hf).n (hI.i1 _ (h.sok.bit 0 (by omega)).2).2
end
end Go.Proofs.YtmcelldklmjlkaaDoor
