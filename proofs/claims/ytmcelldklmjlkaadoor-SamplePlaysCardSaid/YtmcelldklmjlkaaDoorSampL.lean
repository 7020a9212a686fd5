/- A register of four slots, messages of any words: why they are whole, in plain Lean. -/
import Derived.Test.YtmcelldklmjlkaaDoorFourJ
namespace Go.Proofs.YtmcelldklmjlkaaDoor
open Go.RowKit

/-- Message x's words. -/
def msg (M : Nat → Nat → Int) (x n : Nat) : List Int := (List.range n).map (M x)
theorem msg_succ (M : Nat → Nat → Int) (x n : Nat) : msg M x (n + 1) = msg M x n ++ [M x n] := by unfold msg; rw [List.range_succ, List.map_append]; rfl
theorem msg_len (M : Nat → Nat → Int) (x n : Nat) : (msg M x n).length = n := by simp [msg]
theorem msg_get (M : Nat → Nat → Int) (x n j : Nat) (h : j < n) : (msg M x n)[j]? = some (M x j) := by simp [msg, h]
/-- A slot has message x. -/
def MAt (M : Nat → Nat → Int) (s : FS) (p q : Nat) (x : Nat) : Prop := ∀ j, j < s.W → s.mem[4 + (2 * p + q) * s.W + j]? = some (M x j)
theorem slot2_ne {W a b j k : Nat} (hj : j < W) (hk : k < W) (h : a ≠ b) : 4 + a * W + j ≠ 4 + b * W + k := by
  rcases Nat.lt_or_ge a b with h' | h'
  · have := Nat.mul_le_mul_right W (show a + 1 ≤ b from h')
    rw [Nat.add_mul] at this
    omega
  · have := Nat.mul_le_mul_right W (show b + 1 ≤ a by omega)
    rw [Nat.add_mul] at this
    omega
theorem g_set_at {s s' : FS} (h : s.ok) {m v : Nat} (hm : s'.mem = s.mem.set m (v : Int)) (h4 : m < 4) : s'.g m = v := by
  have e1 : s'.mem[m]? = some (v : Int) := by rw [hm, List.getElem?_set_self (by have := h.len; omega)]
  unfold FS.g
  rw [e1]
  rfl
theorem mat_low {M : Nat → Nat → Int} {s s' : FS} {p q x m : Nat} {u : Int} (h : MAt M s p q x) (hm : s'.mem = s.mem.set m u) (hW : s'.W = s.W) (h4 : m < 4) : MAt M s' p q x := fun j hj => by
  rw [hW] at hj ⊢
  rw [hm, List.getElem?_set_ne (by omega)]
  exact h j hj
theorem mat_off {M : Nat → Nat → Int} {s s' : FS} {p q p' q' k x : Nat} {u : Int} (h : MAt M s p q x) (hm : s'.mem = s.mem.set (4 + (2 * p' + q') * s.W + k) u) (hW : s'.W = s.W) (hk : k < s.W) (hne : 2 * p' + q' ≠ 2 * p + q) : MAt M s' p q x := fun j hj => by
  rw [hW] at hj ⊢
  rw [hm, List.getElem?_set_ne (slot2_ne hk hj hne)]
  exact h j hj
/-- v p: the message in pair p's slot; vr: the message that is being read. -/
structure MInv (M : Nat → Nat → Int) (s : FS) (begun over low : Nat) (v : Nat → Nat) (vr : Nat) : Prop where
  i1 : ∀ p, p ≤ 1 → MAt M s p (s.g (2 + p)) (v p) ∧ v p ≤ begun
  i2 : over ≤ v (s.g 0)
  ov : over ≤ begun
  lo : low ≤ over
  wr : s.iw ≠ 0 → s.il = msg M begun s.W
  w1 : 2 ≤ s.iw → s.iw ≤ s.W + 2 → s.iq = 1 - s.g (2 + s.ip) ∧ ∀ j, j < s.W + 2 - s.iw → s.mem[4 + (2 * s.ip + s.iq) * s.W + j]? = some (M begun j)
  w3 : s.iw = 1 → v s.ip = begun
  r1 : 0 < s.ow → s.ow ≤ s.W + 1 → s.g 1 = s.op
  r2 : s.ow = s.W + 2 ∨ s.ow = s.W + 1 → low ≤ v s.op
  r3 : 0 < s.ow → s.ow ≤ s.W → MAt M s s.op s.oq vr ∧ low ≤ vr ∧ vr ≤ begun ∧ s.ol = msg M vr s.ol.length
  r4 : 0 < s.ow → s.ow ≤ s.W → s.ip = s.op → (s.iw = s.W + 3 → s.g (2 + s.op) = s.oq) ∧ (3 ≤ s.iw → s.iw ≤ s.W + 2 → s.iq = 1 - s.oq)
theorem new_g (W i : Nat) (hi : i < 4) : (FS.new W).g i = 0 := by
  unfold FS.g FS.new
  simp only [List.getElem?_replicate]
  rw [if_pos (by omega)]
  rfl
theorem minv_new {M : Nat → Nat → Int} (hM : ∀ j, M 0 j = 0) (W : Nat) : MInv M (FS.new W) 0 0 0 (fun _ => 0) 0 := by
  refine ⟨fun p hp => ⟨fun j hj => ?_, Nat.le_refl _⟩, Nat.le_refl _, Nat.le_refl _, Nat.le_refl _, fun e => absurd rfl e, fun e => by simp [FS.new] at e, fun e => by simp [FS.new] at e, fun e => by simp [FS.new] at e, fun e => by simp [FS.new] at e, fun e => by simp [FS.new] at e, fun e => by simp [FS.new] at e⟩
  rw [new_g W (2 + p) (by omega)]
  have hj' : j < W := hj
  have : (2 * p + 0) * W ≤ 2 * W := Nat.mul_le_mul_right _ (by omega)
  unfold FS.new
  simp only [List.getElem?_replicate]
  rw [if_pos (by omega), hM]
section
variable {M : Nat → Nat → Int} {s : FS} {begun over low vr : Nat} {v : Nat → Nat}
theorem minv_up (h : MInv M s begun over low v vr) (hiw : s.iw = 0) : MInv M s (begun + 1) over low v vr :=
  ⟨fun p hp => ⟨(h.i1 p hp).1, by have := (h.i1 p hp).2; omega⟩, h.i2, by have := h.ov; omega, h.lo, fun e => absurd hiw e, fun e => by omega, fun e => by omega, h.r1, h.r2, fun e e' => by have := h.r3 e e'; exact ⟨this.1, this.2.1, by omega, this.2.2.2⟩, h.r4⟩
theorem minv_wrt (h : MInv M s begun over low v vr) : MInv M (s.wrt (msg M begun s.W)) begun over low v vr :=
  ⟨h.i1, h.i2, h.ov, h.lo, fun _ => rfl, fun e e' => by simp [FS.wrt] at e', fun e => by simp [FS.wrt] at e, h.r1, h.r2, h.r3, fun a b c => ⟨fun e => by simp [FS.wrt] at e, fun e e' => by simp [FS.wrt] at e'⟩⟩
theorem minv_rd (h : MInv M s begun over low v vr) (how : s.ow = 0) : MInv M s.rd.1 begun over over v vr := by
  unfold FS.rd
  rw [if_pos how]
  exact ⟨h.i1, h.i2, h.ov, Nat.le_refl _, h.wr, h.w1, h.w3, fun e e' => by simp only at e'; omega, fun e => by simp only at e; omega, fun e e' => by simp only at e'; omega, fun e e' => by simp only at e'; omega⟩
theorem minv_drop (h : MInv M s begun over low v vr) (x : Bool) : MInv M (s.drop x) begun over low v vr := by
  cases x
  · exact ⟨h.i1, h.i2, h.ov, h.lo, h.wr, h.w1, h.w3, fun e => by simp [FS.drop] at e, fun e => by simp [FS.drop] at e, fun e => by simp [FS.drop] at e, fun e => by simp [FS.drop] at e⟩
  · exact ⟨h.i1, h.i2, h.ov, h.lo, fun e => absurd rfl e, fun e => by simp [FS.drop] at e, fun e => by simp [FS.drop] at e, h.r1, h.r2, h.r3, fun a b c => ⟨fun e => by simp [FS.drop] at e, fun e => by simp [FS.drop] at e⟩⟩
def nextV (s : FS) (begun : Nat) (v : Nat → Nat) : Nat → Nat := fun p => if s.iw = 2 ∧ p = s.ip then begun else v p
theorem minv_stepW (h : MInv M s begun over low v vr) (hk : s.ok) (h0 : s.iw ≠ 0) : MInv M s.stepW.1 begun (if s.iw = 1 then begun else over) low (nextV s begun v) vr := by
  have hiw := hk.iw
  have hip := hk.ip
  have hiq := hk.iq
  have hop := hk.op
  have hoq := hk.oq
  have hil := h.wr h0
  have hov := h.ov
  have hlo := h.lo
  unfold FS.stepW
  rw [if_neg h0]
  have hnv : s.iw ≠ 2 → nextV s begun v = v := fun e => by
    funext p
    unfold nextV
    rw [if_neg (fun e' => e e'.1)]
  unfold FS.accW
  by_cases e1 : s.iw = s.W + 4
  · rw [if_pos e1, hnv (by omega), if_neg (by omega)]
    refine ⟨h.i1, h.i2, h.ov, h.lo, fun _ => hil, fun a b => by simp only at b; omega, fun a => by simp only at a; omega, h.r1, h.r2, h.r3, fun a b c => ⟨fun e => ?_, fun e e' => by simp only at e'; omega⟩⟩
    have hr := h.r1 a (by have : s.ow ≤ s.W := b; omega)
    have hb := (hk.bit 1 (by omega)).2
    simp only at c
    rw [hr] at c
    omega
  rw [if_neg e1]
  by_cases e2 : s.iw = s.W + 3
  · rw [if_pos e2, hnv (by omega), if_neg (by omega)]
    refine ⟨h.i1, h.i2, h.ov, h.lo, fun _ => hil, fun a b => ⟨rfl, fun j hj => by simp only at hj; omega⟩, fun a => by simp only at a; have := hk.w1; omega, h.r1, h.r2, h.r3, fun a b c => ⟨fun e => by simp only at e; omega, fun e e' => ?_⟩⟩
    have := (h.r4 a b c).1 e2
    simp only at c ⊢
    rw [c, this]
  rw [if_neg e2]
  by_cases e3 : 2 < s.iw
  · rw [if_pos e3, hnv (by omega), if_neg (by omega)]
    obtain ⟨hq, hw⟩ := h.w1 (by omega) (by omega)
    have hkk : s.W + 2 - s.iw < s.W := by omega
    have hval : s.il[s.W + 2 - s.iw]?.getD 0 = M begun (s.W + 2 - s.iw) := by rw [hil, msg_get _ _ _ _ hkk]; rfl
    rw [hval]
    have hbq : s.g (2 + s.ip) ≤ 1 := (hk.bit (2 + s.ip) (by omega)).2
    have hg : ∀ i, i < 4 → ({ s with mem := s.mem.set (s.widx (s.W + 2 - s.iw)) (M begun (s.W + 2 - s.iw)), iw := s.iw - 1 } : FS).g i = s.g i := fun i hi => g_set_off rfl (by unfold FS.widx; omega)
    have hoff : ∀ {p q x : Nat}, q ≤ 1 → MAt M s p q x → 2 * s.ip + s.iq ≠ 2 * p + q → MAt M ({ s with mem := s.mem.set (s.widx (s.W + 2 - s.iw)) (M begun (s.W + 2 - s.iw)), iw := s.iw - 1 } : FS) p q x := fun _ ha hne => mat_off (p' := s.ip) (q' := s.iq) (k := s.W + 2 - s.iw) ha rfl rfl hkk hne
    refine ⟨fun p hp => ⟨?_, (h.i1 p hp).2⟩, ?_, h.ov, h.lo, fun _ => hil, fun a b => ⟨?_, fun j hj => ?_⟩, fun a => by simp only at a; omega, fun a b => ?_, h.r2, fun a b => ?_, fun a b c => ⟨fun e => by simp only at e; omega, fun e e' => ?_⟩⟩
    · rw [hg _ (by omega)]
      refine hoff (hk.bit (2 + p) (by omega)).2 (h.i1 p hp).1 ?_
      by_cases ep : p = s.ip
      · subst ep; omega
      · have := (hk.bit (2 + p) (by omega)).2; omega
    · rw [hg 0 (by omega)]; exact h.i2
    · rw [hg (2 + s.ip) (by omega)]; exact hq
    · simp only at hj ⊢
      by_cases ej : j = s.W + 2 - s.iw
      · subst ej
        rw [show s.widx (s.W + 2 - s.iw) = 4 + (2 * s.ip + s.iq) * s.W + (s.W + 2 - s.iw) from rfl, List.getElem?_set_self (slot_lt hk hip hiq hkk)]
      · rw [show s.widx (s.W + 2 - s.iw) = 4 + (2 * s.ip + s.iq) * s.W + (s.W + 2 - s.iw) from rfl, List.getElem?_set_ne (by omega)]
        exact hw j (by omega)
    · rw [hg 1 (by omega)]; exact h.r1 a b
    · obtain ⟨a1, a2, a3, a4⟩ := h.r3 a b
      refine ⟨hoff (p := s.op) (q := s.oq) hoq a1 ?_, a2, a3, a4⟩
      by_cases ep : s.ip = s.op
      · have := (h.r4 a b ep).2 (by omega) (by omega); omega
      · omega
    · exact (h.r4 a b c).2 (by omega) (by omega)
  rw [if_neg e3]
  by_cases e4 : s.iw = 2
  · rw [if_pos e4, if_neg (by omega)]
    obtain ⟨hq, hw⟩ := h.w1 (by omega) (by omega)
    have hbq : s.g (2 + s.ip) ≤ 1 := (hk.bit (2 + s.ip) (by omega)).2
    have hg : ∀ i, i < 4 → i ≠ 2 + s.ip → ({ s with mem := s.mem.set (2 + s.ip) (s.iq : Int), iw := s.iw - 1 } : FS).g i = s.g i := fun i hi hn => g_set_off rfl (Ne.symm hn)
    have hgs : ({ s with mem := s.mem.set (2 + s.ip) (s.iq : Int), iw := s.iw - 1 } : FS).g (2 + s.ip) = s.iq := g_set_at hk rfl (by omega)
    have hlow : ∀ {p q x : Nat}, MAt M s p q x → MAt M ({ s with mem := s.mem.set (2 + s.ip) (s.iq : Int), iw := s.iw - 1 } : FS) p q x := fun ha => mat_low ha rfl rfl (by omega)
    have hle : ∀ p, p ≤ 1 → v p ≤ nextV s begun v p := fun p hp => by
      unfold nextV
      split
      · exact (h.i1 p hp).2
      · exact Nat.le_refl _
    refine ⟨fun p hp => ?_, ?_, h.ov, h.lo, fun _ => hil, fun a b => by simp only at a; omega, fun a => ?_, fun a b => ?_, fun a => Nat.le_trans (h.r2 a) (hle _ hop), fun a b => ?_, fun a b c => ⟨fun e => by simp only at e; omega, fun e e' => by simp only at e; omega⟩⟩
    · by_cases ep : p = s.ip
      · subst ep
        rw [hgs]
        unfold nextV
        rw [if_pos ⟨e4, rfl⟩]
        exact ⟨hlow fun j hj => hw j (by omega), Nat.le_refl _⟩
      · rw [hg _ (by omega) (by omega)]
        unfold nextV
        rw [if_neg (fun e => ep e.2)]
        exact ⟨hlow (h.i1 p hp).1, (h.i1 p hp).2⟩
    · rw [hg 0 (by omega) (by omega)]
      exact Nat.le_trans h.i2 (hle _ (hk.bit 0 (by omega)).2)
    · unfold nextV
      rw [if_pos ⟨e4, rfl⟩]
    · rw [hg 1 (by omega) (by omega)]; exact h.r1 a b
    · obtain ⟨a1, a2, a3, a4⟩ := h.r3 a b
      exact ⟨hlow a1, a2, a3, a4⟩
  · have e5 : s.iw = 1 := by omega
    rw [if_neg e4, hnv e4, if_pos e5]
    have hg : ∀ i, i < 4 → i ≠ 0 → ({ s with mem := s.mem.set 0 (s.ip : Int), iw := s.iw - 1 } : FS).g i = s.g i := fun i hi hn => g_set_off rfl (Ne.symm hn)
    have hgs : ({ s with mem := s.mem.set 0 (s.ip : Int), iw := s.iw - 1 } : FS).g 0 = s.ip := g_set_at hk rfl (by omega)
    have hlow : ∀ {p q x : Nat}, MAt M s p q x → MAt M ({ s with mem := s.mem.set 0 (s.ip : Int), iw := s.iw - 1 } : FS) p q x := fun ha => mat_low ha rfl rfl (by omega)
    refine ⟨fun p hp => ?_, ?_, Nat.le_refl _, Nat.le_trans hlo hov, fun _ => hil, fun a b => by simp only at a; omega, fun a => by simp only at a; omega, fun a b => ?_, h.r2, fun a b => ?_, fun a b c => ⟨fun e => by simp only at e; omega, fun e e' => by simp only at e; omega⟩⟩
    · rw [hg _ (by omega) (by omega)]
      exact ⟨hlow (h.i1 p hp).1, (h.i1 p hp).2⟩
    · rw [hgs, h.w3 e5]
      exact Nat.le_refl _
    · rw [hg 1 (by omega) (by omega)]; exact h.r1 a b
    · obtain ⟨a1, a2, a3, a4⟩ := h.r3 a b
      exact ⟨hlow a1, a2, a3, a4⟩
def nextR (s : FS) (v : Nat → Nat) (vr : Nat) : Nat := if s.ow = s.W + 1 then v s.op else vr
theorem minv_stepR (h : MInv M s begun over low v vr) (hk : s.ok) (h0 : s.ow ≠ 0) : MInv M s.stepR.1 begun over low v (nextR s v vr) := by
  have how := h0
  have how3 := hk.ow
  have hiw := hk.iw
  have hip := hk.ip
  have hop := hk.op
  have hoq := hk.oq
  have hov := h.ov
  have hlo := h.lo
  have hW1 := hk.w1
  have hol := hk.ol h0
  unfold FS.stepR
  rw [if_neg h0]
  have hnr : s.ow ≠ s.W + 1 → nextR s v vr = vr := fun e => by unfold nextR; rw [if_neg e]
  unfold FS.accR
  by_cases e1 : s.ow = s.W + 3
  · rw [if_pos e1, hnr (by omega)]
    exact ⟨h.i1, h.i2, h.ov, h.lo, h.wr, h.w1, h.w3, fun a b => by simp only at b; omega, fun _ => Nat.le_trans hlo h.i2, fun a b => by simp only at b; omega, fun a b => by simp only at b; omega⟩
  rw [if_neg e1]
  by_cases e2 : s.ow = s.W + 2
  · rw [if_pos e2, hnr (by omega)]
    have hg : ∀ i, i < 4 → i ≠ 1 → ({ s with mem := s.mem.set 1 (s.op : Int), ow := s.ow - 1 } : FS).g i = s.g i := fun i hi hn => g_set_off rfl (Ne.symm hn)
    have hgs : ({ s with mem := s.mem.set 1 (s.op : Int), ow := s.ow - 1 } : FS).g 1 = s.op := g_set_at hk rfl (by omega)
    have hlow : ∀ {p q x : Nat}, MAt M s p q x → MAt M ({ s with mem := s.mem.set 1 (s.op : Int), ow := s.ow - 1 } : FS) p q x := fun ha => mat_low ha rfl rfl (by omega)
    refine ⟨fun p hp => ?_, ?_, h.ov, h.lo, h.wr, fun a b => ⟨?_, fun j hj => ?_⟩, h.w3, fun _ _ => hgs, fun _ => h.r2 (.inl e2), fun a b => by simp only at b; omega, fun a b => by simp only at b; omega⟩
    · rw [hg (2 + p) (by omega) (by omega)]
      exact ⟨hlow (h.i1 p hp).1, (h.i1 p hp).2⟩
    · rw [hg 0 (by omega) (by omega)]; exact h.i2
    · rw [hg (2 + s.ip) (by omega) (by omega)]; exact (h.w1 a b).1
    · simp only at hj ⊢
      rw [List.getElem?_set_ne (by omega)]
      exact (h.w1 a b).2 j hj
  rw [if_neg e2]
  by_cases e3 : s.ow = s.W + 1
  · rw [if_pos e3]
    have hr2 := h.r2 (.inr e3)
    have hr1 := h.r1 (by omega) (by omega)
    have hi := h.i1 s.op hop
    have en : nextR s v vr = v s.op := by unfold nextR; rw [if_pos e3]
    rw [en]
    refine ⟨h.i1, h.i2, h.ov, h.lo, h.wr, h.w1, h.w3, fun _ _ => hr1, fun a => by simp only at a; omega, fun a b => ⟨hi.1, hr2, hi.2, ?_⟩, fun a b c => ⟨fun _ => rfl, fun e e' => ?_⟩⟩
    · have : s.ol.length = 0 := by omega
      simp only
      rw [List.eq_nil_of_length_eq_zero this]
      rfl
    · have hw := (h.w1 (by simp only at e; omega) e').1
      simp only at c ⊢
      rw [c] at hw
      exact hw
  · rw [if_neg e3, hnr e3]
    have hb : s.ow ≤ s.W := by omega
    obtain ⟨a1, a2, a3, a4⟩ := h.r3 (by omega) hb
    have hx : s.mem[s.ridx (s.W - s.ow)]?.getD 0 = M vr (s.W - s.ow) := by
      rw [show s.ridx (s.W - s.ow) = 4 + (2 * s.op + s.oq) * s.W + (s.W - s.ow) from rfl, a1 (s.W - s.ow) (by omega)]
      rfl
    rw [hx]
    refine ⟨h.i1, h.i2, h.ov, h.lo, h.wr, h.w1, h.w3, fun _ _ => h.r1 (by omega) (by omega), fun a => by simp only at a; omega, fun _ _ => ⟨a1, a2, a3, ?_⟩, fun a b c => h.r4 (by omega) hb c⟩
    simp only [List.length_append, List.length_cons, List.length_nil]
    rw [msg_succ, ← a4, hol]
/-- What a read that is over has told. -/
theorem minv_told (h : MInv M s begun over low v vr) (hk : s.ok) (h1 : s.ow = 1) : s.accR.ol = msg M (nextR s v vr) s.W ∧ low ≤ nextR s v vr ∧ nextR s v vr ≤ begun := by
  have hW1 := hk.w1
  have hol := hk.ol (by omega)
  obtain ⟨a1, a2, a3, a4⟩ := h.r3 (by omega) (by omega)
  have en : nextR s v vr = vr := by unfold nextR; rw [if_neg (by omega)]
  rw [en]
  have hx : s.mem[s.ridx (s.W - s.ow)]?.getD 0 = M vr (s.W - s.ow) := by
    rw [show s.ridx (s.W - s.ow) = 4 + (2 * s.op + s.oq) * s.W + (s.W - s.ow) from rfl, a1 (s.W - s.ow) (by omega)]
    rfl
  refine ⟨?_, a2, a3⟩
  unfold FS.accR
  rw [if_neg (by omega), if_neg (by omega), if_neg (by omega), hx]
  simp only
  rw [a4, hol, h1]
  rw [show msg M vr s.W = msg M vr (s.W - 1 + 1) by rw [Nat.sub_add_cancel hW1], msg_succ]
theorem minv_congr {M' : Nat → Nat → Int} (hM : ∀ x, x ≤ begun → ∀ j, M x j = M' x j) (h : MInv M s begun over low v vr) : MInv M' s begun over low v vr := by
  have hm : ∀ x, x ≤ begun → ∀ n, msg M x n = msg M' x n := fun x hx n => by unfold msg; exact List.map_congr_left fun j _ => hM x hx j
  have ha : ∀ {p q x : Nat}, x ≤ begun → MAt M s p q x → MAt M' s p q x := fun hx h j hj => by rw [← hM _ hx]; exact h j hj
  refine ⟨fun p hp => ⟨ha (h.i1 p hp).2 (h.i1 p hp).1, (h.i1 p hp).2⟩, h.i2, h.ov, h.lo, fun e => (h.wr e).trans (hm _ (Nat.le_refl _) _), fun a b => ⟨(h.w1 a b).1, fun j hj => by rw [← hM _ (Nat.le_refl _)]; exact (h.w1 a b).2 j hj⟩, h.w3, h.r1, h.r2, fun a b => ?_, h.r4⟩
  obtain ⟨a1, a2, a3, a4⟩ := h.r3 a b
  exact ⟨ha a3 a1, a2, a3, a4.trans (hm _ a3 _)⟩
end
end Go.Proofs.YtmcelldklmjlkaaDoor
