/- Messages through a ring: what is dropped, in plain Lean. -/
import Derived.Test.YtelfclcljdjohaaDoorRingS
namespace Go.Proofs.YtelfclcljdjohaaDoor
open Go.RowKit

section
variable {s : RS}
theorem sw1 (h : s.ia = 1) : s.stepW = ({ s with ih := s.hd, ia := 2 }, false, 0) := by
  unfold RS.stepW
  rw [if_neg (by omega), if_pos h]
theorem sw2 (h : s.ia = 2) : s.stepW = if dist s.P s.tl s.ih = s.P then ({ s with it := s.tl, ia := 0 }, true, 2) else ({ s with it := s.tl, ia := 3 }, false, 0) := by
  unfold RS.stepW
  rw [if_neg (by omega), if_neg (by omega), if_pos h]
theorem sw3 (h : s.ia = 3) : s.stepW = if s.inn < s.W then ({ s with mem := s.mem.set (2 + s.it % s.P * s.W + s.inn) (s.il[s.inn]?.getD 0), inn := s.inn + 1 }, false, 0) else ({ s with mem := s.mem.set 1 ((nextOf s.P s.it : Nat) : Int), ia := 0 }, true, 0) := by
  unfold RS.stepW
  rw [if_neg (by omega), if_neg (by omega), if_neg (by omega)]
theorem sr1 (h : s.oa = 1) : s.stepR = ({ s with ot := s.tl, oa := 2 }, [], false, 0) := by
  unfold RS.stepR
  rw [if_neg (by omega), if_pos h]
theorem sr2 (h : s.oa = 2) : s.stepR = if s.hd = s.ot then ({ s with oh := s.hd, oa := 0 }, [], true, 2) else ({ s with oh := s.hd, oa := 3 }, [], false, 0) := by
  unfold RS.stepR
  rw [if_neg (by omega), if_neg (by omega), if_pos h]
theorem sr3 (h : s.oa = 3) : s.stepR = if s.ol.length < s.W then ({ s with ol := s.ol ++ [s.word] }, [], false, 0) else ({ s with mem := s.mem.set 0 ((nextOf s.P s.oh : Nat) : Int), oa := 0 }, s.ol, true, 0) := by
  unfold RS.stepR
  rw [if_neg (by omega), if_neg (by omega), if_neg (by omega)]
theorem hd_set (_ : s.ok) (i : Nat) (v : Int) (s' : RS) (hm : s'.mem = s.mem.set i v) (hi : 1 ≤ i) : s'.hd = s.hd := by
  simp only [RS.hd, hm]; rw [List.getElem?_set_ne (by omega)]
theorem tl_set (_ : s.ok) (i : Nat) (v : Int) (s' : RS) (hm : s'.mem = s.mem.set i v) (hi : i ≠ 1) : s'.tl = s.tl := by
  simp only [RS.tl, hm]; rw [List.getElem?_set_ne (by omega)]
theorem hd_set0 (h : s.ok) (v : Nat) (s' : RS) (hm : s'.mem = s.mem.set 0 (v : Int)) : s'.hd = v := by
  have := ok_len2 h
  simp only [RS.hd, hm]; rw [List.getElem?_set_self (by omega)]; simp
theorem tl_set1 (h : s.ok) (v : Nat) (s' : RS) (hm : s'.mem = s.mem.set 1 (v : Int)) : s'.tl = v := by
  have := ok_len2 h
  simp only [RS.tl, hm]; rw [List.getElem?_set_self (by omega)]; simp
/-- A ring of two places; the first holds zeros; none was popped, t were pushed. -/
structure DM (s : RS) (W t : Nat) : Prop where
  ok : s.ok
  p : s.P = 2
  w : s.W = W
  h : s.hd = 0
  t : s.tl = t
  z : ∀ j, j < W → s.mem[2 + j]? = some 0
/-- A push of zeros, j accesses. -/
structure DA (s : RS) (W j : Nat) : Prop where
  m : DM s W 0
  oa : s.oa = 0
  il : s.il = List.replicate W 0
  ph : (j = 0 ∧ s.ia = 1 ∧ s.inn = 0) ∨ (j = 1 ∧ s.ia = 2 ∧ s.ih = 0 ∧ s.inn = 0) ∨ (2 ≤ j ∧ j < W + 3 ∧ s.ia = 3 ∧ s.it = 0 ∧ s.inn + 2 = j)
/-- A push behind it. -/
structure DB (s : RS) (W j : Nat) : Prop where
  m : DM s W 1
  oa : s.oa = 0
  ph : (j = 0 ∧ s.ia = 1 ∧ s.inn = 0) ∨ (j = 1 ∧ s.ia = 2 ∧ s.ih = 0 ∧ s.inn = 0) ∨ (2 ≤ j ∧ j < W + 3 ∧ s.ia = 3 ∧ s.it = 1 ∧ s.inn + 2 = j)
/-- A pop. -/
structure DC (s : RS) (W j : Nat) : Prop where
  m : DM s W 1
  ia : s.ia = 0
  ph : (j = 0 ∧ s.oa = 1 ∧ s.ol = []) ∨ (j = 1 ∧ s.oa = 2 ∧ s.ot = 1 ∧ s.ol = []) ∨ (2 ≤ j ∧ j < W + 3 ∧ s.oa = 3 ∧ s.oh = 0 ∧ s.ol = List.replicate (j - 2) 0)
variable {W j : Nat}
theorem da_next (h : DA s W j) : j + 1 < W + 3 ∧ DA s.stepW.1 W (j + 1) ∨ j + 1 = W + 3 ∧ DM s.stepW.1 W 1 ∧ s.stepW.1.ia = 0 ∧ s.stepW.1.oa = 0 := by
  have hok := ok_stepW h.m.ok
  have m := h.m
  rcases h.ph with ⟨rfl, h1, h2⟩ | ⟨rfl, h1, h2, h3⟩ | ⟨j1, j2, h1, h2, h3⟩
  · rw [sw1 h1] at hok ⊢
    exact .inl ⟨by omega, ⟨hok, m.p, m.w, m.h, m.t, m.z⟩, h.oa, h.il, .inr (.inl ⟨rfl, rfl, m.h, h2⟩)⟩
  · rw [sw2 h1, if_neg (by rw [h2, m.t, m.p]; decide)] at hok ⊢
    exact .inl ⟨by omega, ⟨hok, m.p, m.w, m.h, m.t, m.z⟩, h.oa, h.il, .inr (.inr ⟨by omega, by omega, rfl, m.t, by show s.inn + 2 = 2; omega⟩)⟩
  · rw [sw3 h1] at hok ⊢
    by_cases hn : s.inn < s.W
    · rw [if_pos hn] at hok ⊢
      have hv : s.il[s.inn]?.getD 0 = 0 := by rw [h.il, List.getElem?_replicate, if_pos (by rw [← m.w]; exact hn)]; rfl
      have hi : 2 + s.it % s.P * s.W + s.inn = 2 + s.inn := by rw [h2]; simp
      rw [hv, hi] at hok ⊢
      have hwn := m.w
      refine .inl ⟨by omega, ⟨hok, m.p, m.w, (hd_set m.ok _ _ _ rfl (by omega)).trans m.h, (tl_set m.ok _ _ _ rfl (by omega)).trans m.t, fun i hi => ?_⟩, h.oa, h.il, .inr (.inr ⟨by omega, by omega, h1, h2, by show s.inn + 1 + 2 = j + 1; omega⟩)⟩
      have hz := m.z i hi
      by_cases e : i = s.inn
      · subst e
        rw [List.getElem?_set_self (List.getElem?_eq_some_iff.1 hz).1]
      · rw [List.getElem?_set_ne (by omega)]
        exact hz
    · rw [if_neg hn] at hok ⊢
      have hwn := m.w
      refine .inr ⟨by omega, ⟨hok, m.p, m.w, (hd_set m.ok _ _ _ rfl (by omega)).trans m.h, (tl_set1 m.ok _ _ rfl).trans (by rw [h2, m.p]; rfl), fun i hi => ?_⟩, rfl, h.oa⟩
      simp only []
      rw [List.getElem?_set_ne (by omega)]
      exact m.z i hi
theorem db_next (h : DB s W j) (hj : j + 1 < W + 3) : DB s.stepW.1 W (j + 1) := by
  have hok := ok_stepW h.m.ok
  have m := h.m
  rcases h.ph with ⟨rfl, h1, h2⟩ | ⟨rfl, h1, h2, h3⟩ | ⟨j1, j2, h1, h2, h3⟩
  · rw [sw1 h1] at hok ⊢
    exact ⟨⟨hok, m.p, m.w, m.h, m.t, m.z⟩, h.oa, .inr (.inl ⟨rfl, rfl, m.h, h2⟩)⟩
  · rw [sw2 h1, if_neg (by rw [h2, m.t, m.p]; decide)] at hok ⊢
    exact ⟨⟨hok, m.p, m.w, m.h, m.t, m.z⟩, h.oa, .inr (.inr ⟨by omega, by omega, rfl, m.t, by show s.inn + 2 = 2; omega⟩)⟩
  · rw [sw3 h1] at hok ⊢
    have hwn := m.w
    have hi : 2 + s.it % s.P * s.W + s.inn = 2 + W + s.inn := by rw [h2, m.p, hwn]; simp
    rw [if_pos (by omega), hi] at hok ⊢
    refine ⟨⟨hok, m.p, m.w, (hd_set m.ok _ _ _ rfl (by omega)).trans m.h, (tl_set m.ok _ _ _ rfl (by omega)).trans m.t, fun i hi => ?_⟩, h.oa, .inr (.inr ⟨by omega, by omega, h1, h2, by show s.inn + 1 + 2 = j + 1; omega⟩)⟩
    simp only []
    rw [List.getElem?_set_ne (by omega)]
    exact m.z i hi
theorem dc_next (h : DC s W j) (hw : 1 ≤ W) : j + 1 < W + 3 ∧ DC s.stepR.1 W (j + 1) ∨ j + 1 = W + 3 ∧ s.stepR.2.1 = List.replicate W 0 ∧ dist s.stepR.1.P s.stepR.1.tl s.stepR.1.hd = 0 := by
  have hok := ok_stepR h.m.ok
  have m := h.m
  rcases h.ph with ⟨rfl, h1, h2⟩ | ⟨rfl, h1, h2, h3⟩ | ⟨j1, j2, h1, h2, h3⟩
  · rw [sr1 h1] at hok ⊢
    exact .inl ⟨by omega, ⟨hok, m.p, m.w, m.h, m.t, m.z⟩, h.ia, .inr (.inl ⟨rfl, rfl, m.t, h2⟩)⟩
  · rw [sr2 h1, if_neg (by rw [h2, m.h]; decide)] at hok ⊢
    exact .inl ⟨by omega, ⟨hok, m.p, m.w, m.h, m.t, m.z⟩, h.ia, .inr (.inr ⟨by omega, by omega, rfl, m.h, h3⟩)⟩
  · have hl : s.ol.length + 2 = j := by rw [h3, List.length_replicate]; omega
    have hwn := m.w
    rw [sr3 h1] at hok ⊢
    by_cases hn : s.ol.length < s.W
    · rw [if_pos hn] at hok ⊢
      have hwd : s.word = 0 := by
        unfold RS.word
        rw [h2]
        simp only [Nat.zero_mod, Nat.zero_mul, Nat.add_zero]
        rw [m.z _ (by omega)]
        rfl
      rw [hwd] at hok ⊢
      refine .inl ⟨by omega, ⟨hok, m.p, m.w, m.h, m.t, m.z⟩, h.ia, .inr (.inr ⟨by omega, by omega, h1, h2, ?_⟩)⟩
      show s.ol ++ [0] = List.replicate (j + 1 - 2) 0
      rw [show j + 1 - 2 = (j - 2) + 1 by omega, List.replicate_succ', ← h3]
    · rw [if_neg hn]
      refine .inr ⟨by omega, by rw [h3, show j - 2 = W by omega], ?_⟩
      rw [hd_set0 m.ok _ _ rfl, (tl_set m.ok 0 _ _ rfl (by omega)).trans m.t, h2]
      show dist s.P 1 (nextOf s.P 0) = 0
      rw [m.p]
      rfl
theorem dm_new (W : Nat) (h1 : 1 ≤ W) (h6 : W ≤ 6) : DM (RS.new 2 W) W 0 := by
  have e0 : (RS.new 2 W).hd = 0 := by
    simp only [RS.hd, RS.new]; rw [List.getElem?_replicate, if_pos (by omega)]; rfl
  have e1 : (RS.new 2 W).tl = 0 := by
    simp only [RS.tl, RS.new]; rw [List.getElem?_replicate, if_pos (by omega)]; rfl
  exact ⟨ok_new 2 W (by omega) (by omega) h1 h6, rfl, rfl, e0, e1, fun j hj => by simp only [RS.new]; rw [List.getElem?_replicate, if_pos (by omega)]⟩
theorem ok_pushed' (k : s.ok) {l : List Int} (hl : l.length = s.W) (hr : ∀ x ∈ l, okWord x) : (s.pushed l).ok :=
  ⟨k.p1, k.p8, k.w1, k.w6, k.len, k.h, k.h2, k.t, k.t2, by simp [RS.pushed], k.oa, k.ih, k.it, k.oh, k.ot, by simp [RS.pushed], fun _ => ⟨hl, hr⟩, k.ol⟩
theorem ok_popped' (k : s.ok) : s.popped.ok :=
  ⟨k.p1, k.p8, k.w1, k.w6, k.len, k.h, k.h2, k.t, k.t2, k.ia, by simp [RS.popped], k.ih, k.it, k.oh, k.ot, k.inn, k.il, by simp [RS.popped]⟩
theorem rep_word {n : Nat} {v : Int} (h : okWord v) : ∀ x ∈ List.replicate n v, okWord x := fun x hx => by
  have := (List.mem_replicate.1 hx).2
  subst this
  exact h
theorem da_start (W : Nat) (h1 : 1 ≤ W) (h6 : W ≤ 6) : DA ((RS.new 2 W).pushed (List.replicate W 0)) W 0 := by
  have m := dm_new W h1 h6
  exact ⟨⟨ok_pushed' m.ok (by simp [m.w]) (rep_word (by unfold okWord; omega)), m.p, m.w, m.h, m.t, m.z⟩, rfl, rfl, .inl ⟨rfl, rfl, rfl⟩⟩
theorem db_start (m : DM s W 1) (hoa : s.oa = 0) : DB (s.pushed (List.replicate W 9)) W 0 :=
  ⟨⟨ok_pushed' m.ok (by simp [m.w]) (rep_word (by unfold okWord; omega)), m.p, m.w, m.h, m.t, m.z⟩, hoa, .inl ⟨rfl, rfl, rfl⟩⟩
theorem db_ia (h : DB s W j) : s.ia ≠ 0 := by rcases h.ph with ⟨_, e, _⟩ | ⟨_, e, _⟩ | ⟨_, _, e, _⟩ <;> omega
theorem dc_oa (h : DC s W j) : s.oa ≠ 0 := by rcases h.ph with ⟨_, e, _⟩ | ⟨_, e, _⟩ | ⟨_, _, e, _⟩ <;> omega
theorem dc_start (m : DM s W 1) (hia : s.ia = 0) : DC s.popped W 0 :=
  ⟨⟨ok_popped' m.ok, m.p, m.w, m.h, m.t, m.z⟩, hia, .inl ⟨rfl, rfl, rfl⟩⟩
theorem dm_dropped {t : Nat} (m : DM s W t) (x : Bool) : DM (s.dropped x) W t := by
  cases x
  · exact ⟨ok_dropped m.ok false, m.p, m.w, m.h, m.t, m.z⟩
  · exact ⟨ok_dropped m.ok true, m.p, m.w, m.h, m.t, m.z⟩
end
end Go.Proofs.YtelfclcljdjohaaDoor
