/- A register of four slots: why its messages go forward, in plain Lean. -/
import Derived.Test.YtmcelldklmjlkaaDoorSampL
namespace Go.Proofs.YtmcelldklmjlkaaDoor
open Go.RowKit

structure Fwd (s : FS) (last : Nat) (v : Nat → Nat) (vr : Nat) : Prop where
  j : s.g 0 ≠ s.g 1 → 1 ≤ s.iw → s.iw ≤ s.W + 3 → s.ip = s.g 0
  k : s.ow = s.W + 2 → s.g 1 = s.op ∨ s.g 0 = s.op
  m : s.g 0 ≠ s.g 1 → v (s.g 1) ≤ v (s.g 0)
  n : last ≤ v (s.g 0)
  o : s.ow = s.W + 2 ∨ s.ow = s.W + 1 → last ≤ v s.op
  p : 0 < s.ow → s.ow ≤ s.W → last ≤ vr ∧ vr ≤ v (s.g 0)
theorem fwd_new (W : Nat) : Fwd (FS.new W) 0 (fun _ => 0) 0 :=
  ⟨fun e => absurd (by rw [new_g W 0 (by omega), new_g W 1 (by omega)]) e, fun e => by simp [FS.new] at e, fun _ => Nat.le_refl _, Nat.le_refl _, fun _ => Nat.le_refl _, fun e => by simp [FS.new] at e⟩
section
variable {M : Nat → Nat → Int} {s : FS} {begun over low last vr : Nat} {v : Nat → Nat}
theorem fwd_wrt (h : Fwd s last v vr) (l : List Int) : Fwd (s.wrt l) last v vr :=
  ⟨fun _ _ e => by simp [FS.wrt] at e, h.k, h.m, h.n, h.o, h.p⟩
theorem fwd_rd (h : Fwd s last v vr) (how : s.ow = 0) : Fwd s.rd.1 last v vr := by
  unfold FS.rd
  rw [if_pos how]
  exact ⟨h.j, fun e => by simp only at e; omega, h.m, h.n, fun e => by simp only at e; omega, fun _ e => by simp only at e; omega⟩
theorem fwd_stepW (h : Fwd s last v vr) (hI : MInv M s begun over low v vr) (hk : s.ok) (h0 : s.iw ≠ 0) : Fwd s.stepW.1 last (nextV s begun v) vr := by
  have hiw := hk.iw
  have hip := hk.ip
  have hb0 := (hk.bit 0 (by omega)).2
  have hb1 := (hk.bit 1 (by omega)).2
  unfold FS.stepW
  rw [if_neg h0]
  have hnv : s.iw ≠ 2 → nextV s begun v = v := fun e => by
    funext p
    unfold nextV
    rw [if_neg (fun e' => e e'.1)]
  unfold FS.accW
  by_cases e1 : s.iw = s.W + 4
  · rw [if_pos e1, hnv (by omega)]
    exact ⟨fun a _ _ => by
      have a' : s.g 0 ≠ s.g 1 := a
      show 1 - s.g 1 = s.g 0
      omega, h.k, h.m, h.n, h.o, h.p⟩
  rw [if_neg e1]
  by_cases e2 : s.iw = s.W + 3
  · rw [if_pos e2, hnv (by have := hk.w1; omega)]
    exact ⟨fun a _ _ => h.j a (by omega) (by omega), h.k, h.m, h.n, h.o, h.p⟩
  rw [if_neg e2]
  by_cases e3 : 2 < s.iw
  · rw [if_pos e3, hnv (by omega)]
    have hg : ∀ i, i < 4 → ({ s with mem := s.mem.set (s.widx (s.W + 2 - s.iw)) (s.il[s.W + 2 - s.iw]?.getD 0), iw := s.iw - 1 } : FS).g i = s.g i := fun i hi => g_set_off rfl (by unfold FS.widx; omega)
    have g0 := hg 0 (by omega)
    have g1 := hg 1 (by omega)
    exact ⟨fun a _ _ => by rw [g0, g1] at a; rw [g0]; exact h.j a (by omega) (by omega), fun a => by rw [g0, g1]; exact h.k a, fun a => by rw [g0, g1] at a ⊢; exact h.m a, by rw [g0]; exact h.n, h.o, fun a b => by rw [g0]; exact h.p a b⟩
  rw [if_neg e3]
  have hle : ∀ p, p ≤ 1 → v p ≤ nextV s begun v p := fun p hp => by
    unfold nextV
    split
    · exact (hI.i1 p hp).2
    · exact Nat.le_refl _
  by_cases e4 : s.iw = 2
  · rw [if_pos e4]
    have hg : ∀ i, i < 2 → ({ s with mem := s.mem.set (2 + s.ip) (s.iq : Int), iw := s.iw - 1 } : FS).g i = s.g i := fun i hi => g_set_off rfl (by omega)
    have g0 := hg 0 (by omega)
    have g1 := hg 1 (by omega)
    refine ⟨fun a _ _ => by rw [g0, g1] at a; rw [g0]; exact h.j a (by omega) (by omega), fun a => by rw [g0, g1]; exact h.k a, fun a => ?_, by rw [g0]; exact Nat.le_trans h.n (hle _ hb0), fun a => Nat.le_trans (h.o a) (hle _ hk.op), fun a b => ?_⟩
    · rw [g0, g1] at a ⊢
      have hj := h.j a (by omega) (by omega)
      have e : nextV s begun v (s.g 1) = v (s.g 1) := by
        unfold nextV
        rw [if_neg (fun e => a (hj ▸ e.2.symm))]
      rw [e]
      exact Nat.le_trans (h.m a) (hle _ hb0)
    · rw [g0]
      obtain ⟨p1, p2⟩ := h.p a b
      exact ⟨p1, Nat.le_trans p2 (hle _ hb0)⟩
  · have e5 : s.iw = 1 := by omega
    rw [if_neg e4, hnv e4]
    have g0 : ({ s with mem := s.mem.set 0 (s.ip : Int), iw := s.iw - 1 } : FS).g 0 = s.ip := g_set_at hk rfl (by omega)
    have g1 : ({ s with mem := s.mem.set 0 (s.ip : Int), iw := s.iw - 1 } : FS).g 1 = s.g 1 := g_set_off rfl (by omega)
    have hv := hI.w3 e5
    have hL := (hI.i1 (s.g 0) hb0).2
    have hR := (hI.i1 (s.g 1) hb1).2
    refine ⟨fun _ a => by simp only at a; omega, fun a => ?_, fun a => by rw [g0, g1, hv]; exact hR, by rw [g0, hv]; exact Nat.le_trans h.n hL, h.o, fun a b => by rw [g0, hv]; exact ⟨(h.p a b).1, Nat.le_trans (h.p a b).2 hL⟩⟩
    rw [g0, g1]
    rcases h.k a with e | e
    · exact .inl e
    · by_cases e' : s.g 0 = s.g 1
      · exact .inl (e' ▸ e)
      · exact .inr ((h.j e' (by omega) (by omega)).trans e)
theorem fwd_stepR (h : Fwd s last v vr) (hI : MInv M s begun over low v vr) (hk : s.ok) (h0 : s.ow ≠ 0) : Fwd s.stepR.1 last v (nextR s v vr) := by
  have how3 := hk.ow
  have hW1 := hk.w1
  unfold FS.stepR
  rw [if_neg h0]
  have hnr : s.ow ≠ s.W + 1 → nextR s v vr = vr := fun e => by unfold nextR; rw [if_neg e]
  unfold FS.accR
  by_cases e1 : s.ow = s.W + 3
  · rw [if_pos e1, hnr (by omega)]
    exact ⟨h.j, fun _ => .inr rfl, h.m, h.n, fun _ => h.n, fun _ b => by simp only at b; omega⟩
  rw [if_neg e1]
  by_cases e2 : s.ow = s.W + 2
  · rw [if_pos e2, hnr (by omega)]
    have g0 : ({ s with mem := s.mem.set 1 (s.op : Int), ow := s.ow - 1 } : FS).g 0 = s.g 0 := g_set_off rfl (by omega)
    have g1 : ({ s with mem := s.mem.set 1 (s.op : Int), ow := s.ow - 1 } : FS).g 1 = s.op := g_set_at hk rfl (by omega)
    have hkk := h.k e2
    refine ⟨fun a b c => ?_, fun a => by simp only at a; omega, fun a => ?_, by rw [g0]; exact h.n, fun _ => h.o (.inl e2), fun _ b => by simp only at b; omega⟩
    · rw [g0, g1] at a
      rw [g0]
      rcases hkk with e | e
      · exact h.j (e ▸ a) b c
      · exact absurd e a
    · rw [g0, g1] at a ⊢
      rcases hkk with e | e
      · have := h.m (e ▸ a)
        rw [e] at this
        exact this
      · exact absurd e a
  rw [if_neg e2]
  by_cases e3 : s.ow = s.W + 1
  · rw [if_pos e3]
    have en : nextR s v vr = v s.op := by unfold nextR; rw [if_pos e3]
    rw [en]
    refine ⟨h.j, fun a => by simp only at a; omega, h.m, h.n, fun a => by simp only at a; omega, fun _ _ => ⟨h.o (.inr e3), ?_⟩⟩
    have hr := hI.r1 (by omega) (by omega)
    show v s.op ≤ v (s.g 0)
    by_cases e : s.g 0 = s.g 1
    · rw [e, hr]; exact Nat.le_refl _
    · have := h.m e
      rw [hr] at this
      exact this
  · rw [if_neg e3, hnr e3]
    exact ⟨h.j, fun a => by simp only at a; omega, h.m, h.n, fun a => by simp only at a; omega, fun _ _ => h.p (by omega) (by omega)⟩
/-- Behind a read that is over what it told is the last one. -/
theorem fwd_told (h : Fwd s last v vr) (hI : MInv M s begun over low v vr) (hk : s.ok) (h1 : s.ow = 1) : last ≤ nextR s v vr ∧ Fwd s.stepR.1 (nextR s v vr) v (nextR s v vr) := by
  have hW1 := hk.w1
  have hp := h.p (by omega) (by omega)
  have en : nextR s v vr = vr := by unfold nextR; rw [if_neg (by omega)]
  have hf := fwd_stepR h hI hk (by omega)
  have hg : s.stepR.1.g 0 = s.g 0 := by
    unfold FS.stepR FS.accR
    rw [if_neg (by omega), if_neg (by omega), if_neg (by omega), if_neg (by omega)]
    rfl
  have how : s.stepR.1.ow = 0 := by
    unfold FS.stepR
    rw [if_neg (by omega)]
    simp only
    omega
  rw [en] at hf ⊢
  exact ⟨hp.1, ⟨hf.j, hf.k, hf.m, by rw [hg]; exact hp.2, fun a => by omega, fun a => by omega⟩⟩
end
end Go.Proofs.YtmcelldklmjlkaaDoor
