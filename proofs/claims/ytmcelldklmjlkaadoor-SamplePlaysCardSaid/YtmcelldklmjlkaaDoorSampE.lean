/- A sampling port: ahead of a first write; what may not be written; in plain Lean. -/
import Derived.Test.YtmcelldklmjlkaaDoorSampP
import Derived.Test.YtmcelldklmjlkaaDoorSampM
namespace Go.Proofs.YtmcelldklmjlkaaDoor
open Go.RowKit

/-- Slot 0 of pair 0 has zeros, and is the latest. -/
structure Z0 (s : FS) : Prop where
  ok : s.ok
  d : ∀ j, j < s.W → s.mem[4 + j]? = some 0
  g0 : s.g 0 = 0
  g2 : s.g 2 = 0
/-- A read of it. -/
structure ZR (s : FS) : Prop where
  z : Z0 s
  p : s.ow ≤ s.W + 2 → s.op = 0
  q : s.ow ≤ s.W → s.oq = 0 ∧ s.ol = List.replicate s.ol.length 0
theorem z0_new (W : Nat) (h1 : 1 ≤ W) (h6 : W ≤ 6) : Z0 (FS.new W) := by
  refine ⟨ok_new W h1 h6, fun j hj => ?_, new_g W 0 (by omega), new_g W 2 (by omega)⟩
  have hj' : j < W := hj
  unfold FS.new
  simp only [List.getElem?_replicate]
  rw [if_pos (by omega)]
theorem zr_step {s : FS} (h : ZR s) (h0 : s.ow ≠ 0) : ZR s.stepR.1 ∧ s.stepR.1.ow = s.ow - 1 ∧ s.stepR.1.W = s.W ∧ s.stepR.2.2.1 = decide (s.ow = 1) ∧ s.stepR.2.2.2 = 0 ∧ (s.ow = 1 → s.stepR.2.1 = List.replicate s.W 0) := by
  have hk := h.z.ok
  have how := hk.ow
  have hW1 := hk.w1
  have hol := hk.ol h0
  have hok := ok_stepR hk
  unfold FS.stepR at hok ⊢
  rw [if_neg h0] at hok ⊢
  unfold FS.accR at hok ⊢
  by_cases e1 : s.ow = s.W + 3
  · rw [if_pos e1] at hok ⊢
    exact ⟨⟨⟨hok, h.z.d, h.z.g0, h.z.g2⟩, fun _ => h.z.g0, fun e => by simp only at e; omega⟩, rfl, rfl, rfl, rfl, fun e => by omega⟩
  rw [if_neg e1] at hok ⊢
  have hp := h.p (by omega)
  by_cases e2 : s.ow = s.W + 2
  · rw [if_pos e2] at hok ⊢
    have hg : ∀ i, i ≠ 1 → ({ s with mem := s.mem.set 1 (s.op : Int), ow := s.ow - 1 } : FS).g i = s.g i := fun i hn => g_set_off rfl (Ne.symm hn)
    exact ⟨⟨⟨hok, fun j hj => by show (s.mem.set 1 (s.op : Int))[4 + j]? = _; rw [List.getElem?_set_ne (by omega)]; exact h.z.d j hj, by rw [hg 0 (by omega)]; exact h.z.g0, by rw [hg 2 (by omega)]; exact h.z.g2⟩, fun _ => hp, fun e => by simp only at e; omega⟩, rfl, rfl, rfl, rfl, fun e => by omega⟩
  rw [if_neg e2] at hok ⊢
  by_cases e3 : s.ow = s.W + 1
  · rw [if_pos e3] at hok ⊢
    refine ⟨⟨⟨hok, h.z.d, h.z.g0, h.z.g2⟩, fun _ => hp, fun e => ⟨by simp only; rw [hp]; exact h.z.g2, ?_⟩⟩, rfl, rfl, rfl, rfl, fun e => by omega⟩
    have : s.ol.length = 0 := by omega
    simp only
    rw [List.eq_nil_of_length_eq_zero this]
    rfl
  · rw [if_neg e3] at hok ⊢
    obtain ⟨hq, ho⟩ := h.q (by omega)
    have hx : s.mem[s.ridx (s.W - s.ow)]?.getD 0 = 0 := by
      unfold FS.ridx
      rw [hp, hq, show 4 + (2 * 0 + 0) * s.W + (s.W - s.ow) = 4 + (s.W - s.ow) by omega, h.z.d _ (by omega)]
      rfl
    rw [hx] at hok ⊢
    have hr : s.ol ++ [0] = List.replicate (s.ol.length + 1) 0 := by rw [List.replicate_succ', ← ho]
    refine ⟨⟨⟨hok, h.z.d, h.z.g0, h.z.g2⟩, fun _ => hp, fun e => ⟨hq, by simp only [List.length_append, List.length_cons, List.length_nil]; exact hr⟩⟩, rfl, rfl, rfl, rfl, fun e => ?_⟩
    simp only [e, if_true]
    rw [hr, hol, e, Nat.sub_add_cancel hW1]
theorem zr_all (p : SP) (now : Int) (k : Nat) (h : ZR p.s) (h0 : p.s.ow ≠ 0) (hk : p.s.ow ≤ k) : (p.all false now k).2 = (SV.none, true) := by
  induction k generalizing p with
  | zero => omega
  | succ k ih =>
    obtain ⟨a1, a2, a3, a4, a5, a6⟩ := zr_step h h0
    unfold SP.all
    have e4 : (p.s.step false).2.2.1 = decide (p.s.ow = 1) := a4
    have e5 : (p.s.step false).2.2.2 = 0 := a5
    rw [e4, e5]
    by_cases e : p.s.ow = 1
    · rw [if_pos (.inl (by simp [e]))]
      have hv : p.val false now = SV.none := by
        unfold SP.val
        rw [if_pos ⟨by rw [e4]; simp [e], rfl⟩]
        rw [show (p.s.step false).2.1 = List.replicate p.s.W 0 from a6 e]
        unfold valOf
        rw [if_pos (.inr (by have := h.z.ok.w1; rw [List.getElem?_replicate, if_pos (by omega)]; rfl))]
      rw [hv]
      simp [e]
    · rw [if_neg (by simp [e])]
      exact ih (p.stp false) a1 (by rw [show (p.stp false).s.ow = p.s.ow - 1 from a2]; omega) (by rw [show (p.stp false).s.ow = p.s.ow - 1 from a2]; omega)
theorem stepW_eq {s : FS} (h : s.iw ≠ 0) : s.stepW.1 = { s.accW with iw := s.iw - 1 } := by unfold FS.stepW; rw [if_neg h]
/-- A write that is three accesses old, and dropped. -/
theorem z0_three (W : Nat) (h1 : 1 ≤ W) (h6 : W ≤ 6) (l : List Int) (s : FS) (hs : s = (FS.new W).wrt l ∧ l.length = W ∧ allOk l ∨ s = FS.new W) : Z0 (s.stepW.1.stepW.1.stepW.1.drop true) ∧ (s.stepW.1.stepW.1.stepW.1.drop true).ow = 0 ∧ (s.stepW.1.stepW.1.stepW.1.drop true).W = W := by
  rcases hs with ⟨rfl, hl, hkl⟩ | rfl
  · have hok := ok_drop (ok_stepW (ok_stepW (ok_stepW (ok_wrt (ok_new W h1 h6) (s := FS.new W) hl hkl)))) true
    have e1 : ((FS.new W).wrt l).stepW.1 = { (FS.new W).wrt l with ip := 1, iw := W + 3 } := by
      have a : ((FS.new W).wrt l).accW = { (FS.new W).wrt l with ip := 1 - ((FS.new W).wrt l).g 1 } := by unfold FS.accW; exact if_pos rfl
      have : ((FS.new W).wrt l).g 1 = 0 := new_g W 1 (by omega)
      rw [stepW_eq (by simp [FS.wrt]), a, this]
      rfl
    have e2 : ({ (FS.new W).wrt l with ip := 1, iw := W + 3 } : FS).stepW.1 = { (FS.new W).wrt l with ip := 1, iq := 1, iw := W + 2 } := by
      generalize hs : ({ (FS.new W).wrt l with ip := 1, iw := W + 3 } : FS) = s
      have q1 : s.iw = W + 3 ∧ s.W = W ∧ s.ip = 1 := by rw [← hs]; exact ⟨rfl, rfl, rfl⟩
      have a : s.accW = { s with iq := 1 - s.g (2 + s.ip) } := by unfold FS.accW; rw [if_neg (by omega), if_pos (by omega)]
      have : s.g (2 + s.ip) = 0 := by rw [q1.2.2, ← hs]; exact new_g W 3 (by omega)
      rw [stepW_eq (by omega), a, this, ← hs]
      rfl
    have e3 : ({ (FS.new W).wrt l with ip := 1, iq := 1, iw := W + 2 } : FS).stepW.1 = { (FS.new W).wrt l with ip := 1, iq := 1, iw := W + 1, mem := (FS.new W).mem.set (4 + 3 * W) (l[0]?.getD 0) } := by
      generalize hs : ({ (FS.new W).wrt l with ip := 1, iq := 1, iw := W + 2 } : FS) = s
      have q1 : s.iw = W + 2 ∧ s.W = W ∧ s.ip = 1 ∧ s.iq = 1 := by rw [← hs]; exact ⟨rfl, rfl, rfl, rfl⟩
      have a : s.accW = { s with mem := s.mem.set (s.widx (s.W + 2 - s.iw)) (s.il[s.W + 2 - s.iw]?.getD 0) } := by unfold FS.accW; rw [if_neg (by omega), if_neg (by omega), if_pos (by omega)]
      have b : s.W + 2 - s.iw = 0 := by omega
      have c : s.widx 0 = 4 + 3 * W := by unfold FS.widx; rw [q1.2.1, q1.2.2.1, q1.2.2.2]; omega
      rw [stepW_eq (by omega), a, b, c, ← hs]
      rfl
    rw [e1, e2, e3] at hok ⊢
    have hz := z0_new W h1 h6
    refine ⟨⟨?_, fun j hj => ?_, ?_, ?_⟩, rfl, rfl⟩
    · exact hok
    · have hj' : j < W := hj
      show ((FS.new W).mem.set (4 + 3 * W) (l[0]?.getD 0))[4 + j]? = some 0
      rw [List.getElem?_set_ne (by omega)]
      exact hz.d j hj'
    · exact (g_set_off (s := FS.new W) (m := 4 + 3 * W) (v := l[0]?.getD 0) rfl (by omega)).trans hz.g0
    · exact (g_set_off (s := FS.new W) (m := 4 + 3 * W) (v := l[0]?.getD 0) rfl (by omega)).trans hz.g2
  · have e : (FS.new W).stepW.1 = FS.new W := by
      unfold FS.stepW
      rw [if_pos (show (FS.new W).iw = 0 from rfl)]
    rw [e, e, e]
    have hz := z0_new W h1 h6
    exact ⟨⟨ok_drop hz.ok true, hz.d, hz.g0, hz.g2⟩, rfl, rfl⟩
/-- SampleEmpty: what is read is nothing. -/
theorem empty_pure (n : Nat) (f now : Int) (h1 : 1 ≤ n) (h4 : n ≤ 4) (l : List Int) : ∃ p, p = ((((((SP.new n f).wr l now).1.stp true).stp true).stp true).drp true) ∧ p.rd.2 = 0 ∧ (p.rd.1.all false now 20).2 = (SV.none, true) := by
  refine ⟨_, rfl, ?_⟩
  have hs : (((SP.new n f).wr l now).1.s = (FS.new (n + 2)).wrt ((SP.new n f).mes l now) ∧ ((SP.new n f).mes l now).length = n + 2 ∧ allOk ((SP.new n f).mes l now)) ∨ ((SP.new n f).wr l now).1.s = FS.new (n + 2) := by
    unfold SP.wr
    split
    · show ((FS.new (n + 2)).wr ((SP.new n f).mes l now)).1 = _ ∧ _ ∨ ((FS.new (n + 2)).wr ((SP.new n f).mes l now)).1 = _
      unfold FS.wr
      split
      · next h => left; rw [if_pos (show (FS.new (n + 2)).iw = 0 from rfl)]; exact ⟨rfl, h⟩
      · right; rfl
    · right; rfl
  obtain ⟨a1, a2, a3⟩ := z0_three (n + 2) (by omega) (by omega) _ _ hs
  have e : ((((((SP.new n f).wr l now).1.stp true).stp true).stp true).drp true).s = ((((SP.new n f).wr l now).1.s).stepW.1.stepW.1.stepW.1.drop true) := rfl
  generalize ((((((SP.new n f).wr l now).1.stp true).stp true).stp true).drp true) = p at *
  rw [← e] at a1 a2 a3
  have hr : p.s.rd = ({ p.s with ow := p.s.W + 3, ol := [] }, 0) := by unfold FS.rd; rw [if_pos a2]
  have hok := ok_rd a1.ok
  rw [hr] at hok
  refine ⟨by unfold SP.rd; rw [hr], zr_all _ now 20 ?_ ?_ ?_⟩
  · show ZR p.s.rd.1
    rw [hr]
    exact ⟨⟨hok, a1.d, a1.g0, a1.g2⟩, fun e => by simp only at e; omega, fun e => by simp only at e; omega⟩
  · show p.s.rd.1.ow ≠ 0
    rw [hr]
    simp
  · show p.s.rd.1.ow ≤ 20
    rw [hr]
    simp only
    omega
/-- SampleOdd. -/
theorem odd_pure (n : Nat) (f : Int) (l : List Int) (p0 : SP) (hp0 : p0 = SP.new n f) :
    (l.length = n ∧ allOk l → (p0.wr l 3).2 = 0 ∧ ((p0.wr l 3).1.wr l 3).2 = 1 ∧ ((p0.wr l 3).1.wr l 3).1.q = 1) ∧
    (¬ (l.length = n ∧ allOk l) → (p0.wr l 3).2 = 3 ∧ ((p0.wr l 3).1.wr l 3).2 = 3 ∧ ((p0.wr l 3).1.wr l 3).1.q = 0) := by
  have hok : ∀ p : SP, 0 ≤ p.q → p.q ≤ 5 → (allOk (p.mes l 3) ↔ allOk l) := fun p h0 h5 => by
    unfold SP.mes allOk
    have a1 : okWord p.nx := by unfold okWord SP.nx; omega
    have a2 : okWord (min (cut 3) 2147483647) := by decide
    simp only [List.mem_cons, forall_eq_or_imp]
    exact ⟨fun h => h.2.2, fun h => ⟨a1, a2, h⟩⟩
  have hlen : ∀ p : SP, (p.mes l 3).length = l.length + 2 := fun p => by simp [SP.mes]
  constructor
  · rintro ⟨hl, hk⟩
    have e1 : p0.wr l 3 = ({ p0 with q := 1, s := p0.s.wrt (p0.mes l 3) }, 0) := by
      have : p0.s.wr (p0.mes l 3) = (p0.s.wrt (p0.mes l 3), 0) := by
        unfold FS.wr
        rw [if_pos ⟨by rw [hlen, hl, hp0]; rfl, (hok p0 (by rw [hp0]; simp [SP.new]) (by rw [hp0]; simp [SP.new])).2 hk⟩, if_pos (by rw [hp0]; rfl)]
      unfold SP.wr
      rw [if_pos (by rw [hl, hp0]; rfl), this]
      simp only [if_true]
      rw [show p0.nx = 1 by rw [hp0]; rfl]
    rw [e1]
    refine ⟨rfl, ?_⟩
    generalize hp1 : ({ p0 with q := 1, s := p0.s.wrt (p0.mes l 3) } : SP) = p1
    have q1 : p1.q = 1 := by rw [← hp1]
    have : p1.s.wr (p1.mes l 3) = (p1.s, 1) := by
      unfold FS.wr
      rw [if_pos ⟨by rw [hlen, hl, ← hp1, hp0]; rfl, (hok p1 (by omega) (by omega)).2 hk⟩, if_neg (by rw [← hp1]; simp [FS.wrt])]
    unfold SP.wr
    rw [if_pos (by rw [hl, ← hp1, hp0]; rfl), this]
    exact ⟨rfl, by simp [q1]⟩
  · intro h
    have e1 : p0.wr l 3 = (p0, 3) ∨ (l.length = n ∧ p0.wr l 3 = (p0, 3)) := by
      left
      unfold SP.wr
      by_cases hl : l.length = n
      · have : p0.s.wr (p0.mes l 3) = (p0.s, 3) := by
          unfold FS.wr
          rw [if_neg (fun e => h ⟨hl, (hok p0 (by rw [hp0]; simp [SP.new]) (by rw [hp0]; simp [SP.new])).1 e.2⟩)]
        rw [if_pos (by rw [hl, hp0]; rfl), this]
        simp
      · rw [if_neg (by rw [hp0]; exact hl)]
    have e2 : p0.wr l 3 = (p0, 3) := e1.elim id (fun e => e.2)
    rw [e2]
    simp only
    rw [e2]
    exact ⟨by first | rfl | trivial, by first | rfl | trivial, by rw [hp0]; rfl⟩
end Go.Proofs.YtmcelldklmjlkaaDoor
