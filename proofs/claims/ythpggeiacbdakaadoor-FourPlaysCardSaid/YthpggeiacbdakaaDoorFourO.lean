/- A register of four slots: what a turn changes, in plain Lean, of one word. -/
import Derived.Test.YthpggeiacbdakaaDoorFourWhole
namespace Go.Proofs.YthpggeiacbdakaaDoor
open Go.RowKit

def valAt (l : List Int) (i : Nat) : Int := l[i]?.getD 0
theorem val_set_ne {l : List Int} {m i : Nat} {u : Int} (h : m ≠ i) : valAt (l.set m u) i = valAt l i := by unfold valAt; rw [List.getElem?_set_ne h]
theorem set_far (l : List Int) : l = l.set l.length 0 := (List.set_eq_of_length_le (Nat.le_refl _)).symm
section
variable {s s' : FS} {begun over low vr : Nat} {v : Nat → Nat}
theorem fromW_mem (hk : s.ok) (hI : Inv s begun over low v vr) (h1 : s.W = 1) (h : FromW s s') : s'.ow = s.ow ∧ s'.op = s.op ∧ s'.oq = s.oq ∧ ∃ m u, s'.mem = s.mem.set m u ∧ (s.ow = 1 → m ≠ 4 + (2 * s.op + s.oq)) := by
  have hip := hk.ip
  have hiq := hk.iq
  have hop := hk.op
  have hoq := hk.oq
  have hiw := hk.iw
  have hlen := hk.len
  have hfar : s.ow = 1 → s.mem.length ≠ 4 + (2 * s.op + s.oq) := fun _ => by omega
  obtain ⟨s1, ⟨rfl, h0⟩ | ⟨l, rfl⟩, rfl⟩ := h
  · unfold FS.stepW
    rw [if_neg h0]
    unfold FS.accW
    by_cases e1 : s1.iw = s1.W + 4
    · rw [if_pos e1]
      exact ⟨rfl, rfl, rfl, _, _, set_far _, hfar⟩
    rw [if_neg e1]
    by_cases e2 : s1.iw = s1.W + 3
    · rw [if_pos e2]
      exact ⟨rfl, rfl, rfl, _, _, set_far _, hfar⟩
    rw [if_neg e2]
    by_cases e3 : 2 < s1.iw
    · rw [if_pos e3]
      refine ⟨rfl, rfl, rfl, _, _, rfl, fun e => ?_⟩
      unfold FS.widx
      rw [h1, Nat.mul_one]
      have e4 := hI.r4 (by omega) (by omega)
      intro e5
      have e6 : s1.ip = s1.op := by omega
      have := (e4 e6).2 (by omega) (by omega)
      omega
    rw [if_neg e3]
    by_cases e4 : s1.iw = 2
    · rw [if_pos e4]
      exact ⟨rfl, rfl, rfl, _, _, rfl, fun _ => by omega⟩
    · rw [if_neg e4]
      exact ⟨rfl, rfl, rfl, _, _, rfl, fun _ => by omega⟩
  · unfold FS.stepW
    rw [if_neg (by simp [FS.wrt])]
    unfold FS.accW
    rw [if_pos (by simp [FS.wrt])]
    exact ⟨rfl, rfl, rfl, _, _, set_far _, hfar⟩
theorem fromR_mem (hk : s.ok) (hI : Inv s begun over low v vr) (h1 : s.W = 1) (h : FromR s s') : (∃ m u, s'.mem = s.mem.set m u) ∧ (s'.ow = 1 ↔ s.ow = 2) ∧ (s.ow = 2 → s'.g 1 = s'.op ∧ s'.oq = s'.g (2 + s'.op)) := by
  have how := hk.ow
  obtain ⟨s1, ⟨rfl, h0⟩ | ⟨h0, rfl⟩, rfl⟩ := h
  · unfold FS.stepR
    rw [if_neg h0]
    unfold FS.accR
    by_cases e1 : s1.ow = s1.W + 3
    · rw [if_pos e1]
      exact ⟨⟨_, _, set_far _⟩, by simp only; omega, fun e => by omega⟩
    rw [if_neg e1]
    by_cases e2 : s1.ow = s1.W + 2
    · rw [if_pos e2]
      exact ⟨⟨_, _, rfl⟩, by simp only; omega, fun e => by omega⟩
    rw [if_neg e2]
    by_cases e3 : s1.ow = s1.W + 1
    · rw [if_pos e3]
      exact ⟨⟨_, _, set_far _⟩, by simp only; omega, fun e => ⟨hI.r1 (by omega) (by omega), rfl⟩⟩
    · rw [if_neg e3]
      exact ⟨⟨_, _, set_far _⟩, by simp only; omega, fun e => by omega⟩
  · have e : s.rd.1.ow = s.W + 3 ∧ s.rd.1.W = s.W ∧ s.rd.1.mem = s.mem := by unfold FS.rd; rw [if_pos h0]; exact ⟨rfl, rfl, rfl⟩
    unfold FS.stepR
    rw [if_neg (by omega)]
    unfold FS.accR
    rw [if_pos (by omega)]
    exact ⟨⟨s.mem.length, 0, e.2.2.trans (set_far _)⟩, by simp only; omega, fun e => by omega⟩
/-- What the law keeps of the place that is to be read. -/
def PlaceAt (s : FS) (place : Nat) : Prop := 4 ≤ place ∧ place ≤ 7 ∧ (s.ow = 1 → place = 4 + (2 * s.op + s.oq))
theorem place_w (hk : s.ok) (hI : Inv s begun over low v vr) (h1 : s.W = 1) (h : FromW s s') {place : Nat} (hp : PlaceAt s place) : PlaceAt s' place ∧ ∃ m u, s'.mem = s.mem.set m u ∧ (s.ow = 1 → valAt s'.mem place = valAt s.mem place) := by
  obtain ⟨a1, a2, a3, m, u, a4, a5⟩ := fromW_mem hk hI h1 h
  refine ⟨⟨hp.1, hp.2.1, fun e => ?_⟩, m, u, a4, fun e => ?_⟩
  · rw [a2, a3]; exact hp.2.2 (a1 ▸ e)
  · rw [a4]
    exact val_set_ne (by rw [hp.2.2 e]; exact a5 e)
theorem place_r (hk : s.ok) (hk' : s'.ok) (hI : Inv s begun over low v vr) (h1 : s.W = 1) (h : FromR s s') {place : Nat} (hp : PlaceAt s place) : (∃ m u, s'.mem = s.mem.set m u) ∧ (s.ow ≠ 2 → PlaceAt s' place) ∧ (s.ow = 2 → PlaceAt s' (4 + 2 * s'.g 1 + s'.g (2 + s'.g 1))) := by
  obtain ⟨a1, a2, a3⟩ := fromR_mem hk hI h1 h
  refine ⟨a1, fun e => ⟨hp.1, hp.2.1, fun e' => absurd (a2.1 e') e⟩, fun e => ?_⟩
  have b1 := (hk'.bit 1 (by omega)).2
  have b2 := (hk'.bit (2 + s'.g 1) (by omega)).2
  obtain ⟨c1, c2⟩ := a3 e
  exact ⟨by omega, by omega, fun _ => by rw [c2, c1]; omega⟩
end
theorem WAt.grow {F : Prop} {W w w' : World} {b mb lb x : Nat} {X : Nat → Prop} {s : FS} {begun over low last : Nat} (h : WAt F W w b mb lb x X s begun over low last) (hb : Below w.heap.size w w') : WAt F W w' b mb lb x (newX X w w') s begun over low last :=
  ⟨h.c.grow hb, h.k.below hb h.k.lt, .inl h.xx, h.hx, h.inv⟩
/-- The cells, told in a block of their own. -/
theorem ctx_told {W w : World} {b mb lb : Nat} {X : Nat → Prop} {s : FS} (h : Ctx W w b mb lb X s) (h1 : s.W = 1) :
    Calls Tryd.prog 28 #[.pointer (some ⟨b, 0, none⟩)] w fun e w' => ∃ g c, e = .returned (.slice (some ⟨g, 0, none⟩) 8 c) ∧ 8 ≤ c ∧ w.heap.size ≤ g ∧ g < w'.heap.size ∧ (∀ i, i < 8 → w'.cell? ⟨g, i, none⟩ = some (.int .i64 (valAt s.mem i))) ∧ Below w.heap.size w w' := by
  obtain ⟨Z, vl, vi, vr, vo, c, hF, -, -⟩ := h.at_
  have hl : s.mem.length = 8 := by rw [h.ok.len, h1]
  refine (cells_any hF).mono fun e w' ⟨v, he, ho, hb⟩ => ?_
  rw [hl] at ho
  obtain ⟨g, cap, rfl, g1, g2, g3, hc, -⟩ := own_pos ho (by omega)
  refine ⟨g, cap, he, g3, g1, g2, fun i hi => ?_, hb⟩
  have e : valAt s.mem i = s.mem[i]'(by omega) := by unfold valAt; rw [List.getElem?_eq_getElem (by omega)]; rfl
  rw [hc i (by omega), nums_get s.mem i (by omega), e]
end Go.Proofs.YthpggeiacbdakaaDoor
