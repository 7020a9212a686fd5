/- The register of three slots: as the laws see it. -/
import Derived.Test.YtdhbiogcaekbbaaDoorTripleH
namespace Go.Proofs.YtdhbiogcaekbbaaDoor
open Go.RowKit

def TS.mid (s : TS) : Nat := (s.mem[0]?.getD 0).toNat
def TS.rd (s : TS) : TS × Int := if s.oa = 0 then ({ s with oa := 1, ol := [] }, 0) else (s, 1)
def TS.wrt (s : TS) (l : List Int) : TS := { s with ia := 3, il := l, inn := 0 }
def TS.next (s : TS) : Int := s.mem[1 + s.oo * s.W + s.ol.length]?.getD 0
def TS.stepW (s : TS) : TS × List Int × Bool × Int :=
  if s.ia = 0 then (s, [], false, 2)
  else if s.inn < s.W then ({ s with mem := s.mem.set (1 + s.io * s.W + s.inn) (s.il[s.inn]?.getD 0), inn := s.inn + 1 }, [], false, 0)
  else ({ s with mem := s.mem.set 0 ((s.io + 4 : Nat) : Int), io := s.mid % 4, ia := 0 }, [], true, 0)
def TS.stepR (s : TS) : TS × List Int × Bool × Int :=
  if s.oa = 0 then (s, [], false, 2)
  else if s.oa = 1 then ({ s with oa := if 4 ≤ s.mid then 2 else 3 }, [], false, 0)
  else if s.oa = 2 then ({ s with mem := s.mem.set 0 (s.oo : Int), oo := s.mid % 4, oa := 3 }, [], false, 0)
  else if s.ol.length + 1 < s.W then ({ s with ol := s.ol ++ [s.next] }, [], false, 0)
  else ({ s with ol := s.ol ++ [s.next], oa := 0 }, s.ol ++ [s.next], true, 0)
def TS.step (s : TS) : Bool → TS × List Int × Bool × Int
  | true => s.stepW
  | false => s.stepR
def TS.dropW (s : TS) : TS × Bool := if s.ia = 0 then (s, false) else ({ s with ia := 0 }, true)
def TS.dropR (s : TS) : TS × Bool := if s.oa = 0 then (s, false) else ({ s with oa := 0 }, true)
def TS.drop (s : TS) : Bool → TS × Bool
  | true => s.dropW
  | false => s.dropR
def TS.busy (s : TS) : Bool → Bool
  | true => (s.ia : Int) != 0
  | false => (s.oa : Int) != 0
def TS.own (s : TS) : Bool → Nat
  | true => s.io
  | false => s.oo
structure TS.fine (s : TS) : Prop where
  ok : s.ok
  o0 : s.oa = 1 ∨ s.oa = 2 → s.ol = []

theorem ok_mid {s : TS} (h : s.ok) : s.mem[0]? = some ((s.mid : Nat) : Int) ∧ s.mid ≤ 6 ∧ s.mid % 4 ≤ 2 := by
  obtain ⟨m, hm, h1, h2⟩ := h.mid
  have : s.mid = m := by unfold TS.mid; rw [hm]; simp
  rw [this]
  exact ⟨hm, h1, h2⟩
theorem ok_il {s : TS} (h : s.ok) (hia : s.ia ≠ 0) (hn : s.inn < s.W) : s.il[s.inn]? = some (s.il[s.inn]?.getD 0) := by
  have hi := h.il (h.ia.resolve_left hia)
  have : s.inn < s.il.length := by omega
  rw [List.getElem?_eq_getElem this]; rfl
theorem ok_next {s : TS} (h : s.ok) (hoa : s.oa = 3) : s.mem[1 + s.oo * s.W + s.ol.length]? = some s.next := by
  have hl := h.ol hoa
  have hoo := h.oo
  have hp : s.oo * s.W ≤ 2 * s.W := Nat.mul_le_mul hoo (Nat.le_refl _)
  have hlt : 1 + s.oo * s.W + s.ol.length < s.mem.length := by rw [h.len]; omega
  unfold TS.next
  rw [List.getElem?_eq_getElem hlt]; rfl
theorem ok_idx {s : TS} (h : s.ok) (hn : s.inn < s.W) : 1 + s.io * s.W + s.inn < s.mem.length := by
  have hp : s.io * s.W ≤ 2 * s.W := Nat.mul_le_mul h.io (Nat.le_refl _)
  rw [h.len]; omega

theorem fine_new (W : Nat) (h1 : 1 ≤ W) (h6 : W ≤ 6) : (TS.new W).fine := ⟨ok_new W h1 h6, fun _ => rfl⟩
theorem fine_wrt {s : TS} (h : s.fine) {l : List Int} (hl : l.length = s.W) (hr : ∀ v ∈ l, okWord v) : (s.wrt l).fine :=
  ⟨⟨h.ok.w1, h.ok.w6, h.ok.len, h.ok.io, h.ok.oo, .inr rfl, fun _ => ⟨hl, Nat.zero_le _, hr⟩, h.ok.oa, h.ok.ol, h.ok.ol', h.ok.mid⟩, h.o0⟩
theorem fine_rd {s : TS} (h : s.fine) : s.rd.1.fine := by
  unfold TS.rd
  split
  · exact ⟨⟨h.ok.w1, h.ok.w6, h.ok.len, h.ok.io, h.ok.oo, h.ok.ia, h.ok.il, by simp, fun e => by simp at e, by simp, h.ok.mid⟩, fun _ => rfl⟩
  · exact h
theorem fine_dropW {s : TS} (h : s.fine) : s.dropW.1.fine := by
  unfold TS.dropW
  split
  · exact h
  · exact ⟨⟨h.ok.w1, h.ok.w6, h.ok.len, h.ok.io, h.ok.oo, .inl rfl, fun e => by simp at e, h.ok.oa, h.ok.ol, h.ok.ol', h.ok.mid⟩, h.o0⟩
theorem fine_dropR {s : TS} (h : s.fine) : s.dropR.1.fine := by
  unfold TS.dropR
  split
  · exact h
  · exact ⟨⟨h.ok.w1, h.ok.w6, h.ok.len, h.ok.io, h.ok.oo, h.ok.ia, h.ok.il, by simp, fun e => by simp at e, h.ok.ol', h.ok.mid⟩, fun e => by simp at e⟩
theorem fine_drop {s : TS} (h : s.fine) (x : Bool) : (s.drop x).1.fine := by
  cases x
  · exact fine_dropR h
  · exact fine_dropW h
theorem fine_stepW {s : TS} (h : s.fine) : s.stepW.1.fine := by
  have hm := ok_mid h.ok
  have hp : 0 < s.mem.length := by rw [h.ok.len]; omega
  have hio := h.ok.io
  unfold TS.stepW
  split
  · exact h
  · split
    · rename_i hia hn
      refine ⟨⟨h.ok.w1, h.ok.w6, by simp only [List.length_set]; exact h.ok.len, h.ok.io, h.ok.oo, h.ok.ia, fun e => ⟨(h.ok.il e).1, by simp only []; omega, (h.ok.il e).2.2⟩, h.ok.oa, h.ok.ol, h.ok.ol', s.mid, ?_, hm.2⟩, h.o0⟩
      simp only []
      rw [List.getElem?_set_ne (by omega)]
      exact hm.1
    · refine ⟨⟨h.ok.w1, h.ok.w6, by simp only [List.length_set]; exact h.ok.len, hm.2.2, h.ok.oo, .inl rfl, fun e => by simp at e, h.ok.oa, h.ok.ol, h.ok.ol', s.io + 4, ?_, by omega, by omega⟩, h.o0⟩
      simp [hp]
theorem fine_stepR {s : TS} (h : s.fine) : s.stepR.1.fine := by
  have hm := ok_mid h.ok
  have hp : 0 < s.mem.length := by rw [h.ok.len]; omega
  have hoo := h.ok.oo
  have hw := h.ok.w1
  unfold TS.stepR
  split
  · exact h
  split
  · rename_i h0 h1
    have e := h.o0 (.inl h1)
    exact ⟨⟨h.ok.w1, h.ok.w6, h.ok.len, h.ok.io, h.ok.oo, h.ok.ia, h.ok.il, by simp only []; split <;> omega, fun _ => by simp only [e, List.length_nil]; omega, h.ok.ol', h.ok.mid⟩, fun _ => e⟩
  split
  · rename_i h0 h1 h2
    have e := h.o0 (.inr h2)
    refine ⟨⟨h.ok.w1, h.ok.w6, by simp only [List.length_set]; exact h.ok.len, h.ok.io, hm.2.2, h.ok.ia, h.ok.il, by simp, fun _ => by simp only [e, List.length_nil]; omega, h.ok.ol', s.oo, ?_, by omega, by omega⟩, fun e => by simp at e⟩
    simp [hp]
  have h3 : s.oa = 3 := by have := h.ok.oa; omega
  have hl := h.ok.ol h3
  split
  · rename_i hlt
    exact ⟨⟨h.ok.w1, h.ok.w6, h.ok.len, h.ok.io, h.ok.oo, h.ok.ia, h.ok.il, h.ok.oa, fun _ => by simp only [List.length_append, List.length_singleton]; omega, by simp only [List.length_append, List.length_singleton]; omega, h.ok.mid⟩, fun e => by simp only [] at e; omega⟩
  · exact ⟨⟨h.ok.w1, h.ok.w6, h.ok.len, h.ok.io, h.ok.oo, h.ok.ia, h.ok.il, by simp, fun e => by simp at e, by simp only [List.length_append, List.length_singleton]; omega, h.ok.mid⟩, fun e => by simp at e⟩
theorem fine_step {s : TS} (h : s.fine) (x : Bool) : (s.step x).1.fine := by
  cases x
  · exact fine_stepR h
  · exact fine_stepW h

/-! ### The register: made by the law itself, above all that was there -/
structure Ctx (W w : World) (b mb lb : Nat) (s : TS) : Prop where
  at_ : ∃ vi vo c, TAt w b mb lb s vi vo c
  fine : s.fine
  bel : Below W.heap.size W w
  gb : W.heap.size ≤ b
  gm : W.heap.size ≤ mb
  gl : W.heap.size ≤ lb
section
variable {W w w' : World} {b mb lb : Nat} {s s' : TS}
theorem Ctx.reg (h : Ctx W w b mb lb s) : ∀ k, regS b mb lb k → W.heap.size ≤ k := by
  rintro k (rfl | rfl | rfl)
  · exact h.gb
  · exact h.gm
  · exact h.gl
theorem Ctx.onl (h : Ctx W w b mb lb s) (hT : ∃ vi vo c, TAt w' b mb lb s' vi vo c) (hf : s'.fine) (hO : Only (regS b mb lb) w w') : Ctx W w' b mb lb s' :=
  ⟨hT, hf, below_onl h.bel hO h.bel.size h.reg, h.gb, h.gm, h.gl⟩
theorem Ctx.below (h : Ctx W w b mb lb s) (hb : Below w.heap.size w w') : Ctx W w' b mb lb s := by
  obtain ⟨vi, vo, c, hT⟩ := h.at_
  exact ⟨⟨vi, vo, c, hT.below hb⟩, h.fine, h.bel.trans (hb.mono h.bel.size), h.gb, h.gm, h.gl⟩
theorem Ctx.drewN (h : Ctx W w b mb lb s) (n : Nat) : Ctx W (w.drewN n) b mb lb s := h.below (below_drewN' w n)
theorem Ctx.drew (h : Ctx W w b mb lb s) : Ctx W w.drew b mb lb s := h.below (Below.refl _ w).drew
/-- a store into the law's own block. -/
theorem Ctx.set (h : Ctx W w b mb lb s) (i : Nat) (u : Value) (h1 : ¬ regS b mb lb s.x) (hx : W.heap.size ≤ s.x) : Ctx W (w.setCell ⟨s.x, i, none⟩ u) b mb lb s := by
  obtain ⟨vi, vo, c, hT⟩ := h.at_
  have hO : Only (fun k => k = s.x) w (w.setCell ⟨s.x, i, none⟩ u) := onl_set (S := fun k => k = s.x) (onl_refl _ w) (p := ⟨s.x, i, none⟩) (.inl rfl) u
  refine ⟨⟨vi, vo, c, ⟨blk_onl hT.r hO fun e => h1 (.inl e.symm), hT.m.onl hO (fun e => h1 (.inr (.inl e.symm))) (fun e => h1 (.inr (.inr e.symm))), ints_onl hT.il hO fun g hg e => hT.sx g hg (.inr e), full_onl hT.ol hO fun g hg e => hT.sy g hg (.inr e), hT.sx, hT.sy, Nat.lt_of_lt_of_le hT.lx hO.size⟩⟩, h.fine, below_onl h.bel hO h.bel.size fun k e => ?_, h.gb, h.gm, h.gl⟩
  cases e
  exact hx
theorem Ctx.lt (h : Ctx W w b mb lb s) : b < w.heap.size ∧ mb < w.heap.size ∧ lb < w.heap.size ∧ s.x < w.heap.size := by
  obtain ⟨vi, vo, c, hT⟩ := h.at_
  exact ⟨hT.r.lt, hT.m.m.lt, hT.m.d.lt, hT.lx⟩
theorem ctx_new {W w : World} (n : Int) (h : Below W.heap.size W w) :
    Calls Tryd.prog 10 #[.int .i64 n] w fun e w' => ∃ b mb lb, e = .returned (.pointer (some ⟨b, 0, none⟩)) ∧ Below w.heap.size w w' ∧ w.heap.size ≤ b ∧ w.heap.size ≤ mb ∧ w.heap.size ≤ lb ∧ b < w'.heap.size ∧ mb < w'.heap.size ∧ lb < w'.heap.size ∧
      ∀ (x : Nat) (w2 : World), Below w'.heap.size w' w2 → x < w2.heap.size → Ctx W w2 b mb lb { TS.new (wordsOf n) with x := x } :=
  (tnew_any n w).mono fun e w' ⟨b, mb, lb, he, g1, g2, g3, hT, hB⟩ => ⟨b, mb, lb, he, hB, g1, g2, g3, hT.r.lt, hT.m.m.lt, hT.m.d.lt, fun x w2 hb hx => by
    have hs := h.size
    have hT2 := hT.below hb
    have hf := fine_new (wordsOf n) (wordsOf_bd n).1 (wordsOf_bd n).2
    exact ⟨⟨_, _, _, ⟨hT2.r, hT2.m, hT2.il, hT2.ol, fun g hg => by simp [Value.ownBlock] at hg, fun g hg => by simp [Value.ownBlock] at hg, hx⟩⟩, ⟨⟨hf.ok.w1, hf.ok.w6, hf.ok.len, hf.ok.io, hf.ok.oo, hf.ok.ia, hf.ok.il, hf.ok.oa, hf.ok.ol, hf.ok.ol', hf.ok.mid⟩, hf.o0⟩, (h.trans (hB.mono h.size)).trans (hb.mono (Nat.le_trans h.size hB.size)), by omega, by omega, by omega⟩⟩

theorem ctx_busy (h : Ctx W w b mb lb s) (x : Bool) :
    Calls Tryd.prog 15 #[.pointer (some ⟨b, 0, none⟩), .bool x] w fun e w' => e = .returned (.bool (s.busy x)) ∧ w = w' := by
  obtain ⟨vi, vo, c, hT⟩ := h.at_
  cases x
  · exact busy_r hT
  · exact busy_w hT
theorem ctx_own (h : Ctx W w b mb lb s) (x : Bool) :
    Calls Tryd.prog 28 #[.pointer (some ⟨b, 0, none⟩), .bool x] w fun e w' => e = .returned (.int .i64 (s.own x)) ∧ w = w' := by
  obtain ⟨vi, vo, c, hT⟩ := h.at_
  cases x
  · exact own_r hT
  · exact own_w hT
theorem ctx_words (h : Ctx W w b mb lb s) :
    Calls Tryd.prog 14 #[.pointer (some ⟨b, 0, none⟩)] w fun e w' => e = .returned (.int .i64 s.W) ∧ w = w' := by
  obtain ⟨vi, vo, c, hT⟩ := h.at_
  exact words_any hT
theorem ctx_drop (h : Ctx W w b mb lb s) (x : Bool) :
    Calls Tryd.prog 11 #[.pointer (some ⟨b, 0, none⟩), .bool x] w fun e w' => e = .returned (.bool (s.drop x).2) ∧ Ctx W w' b mb lb (s.drop x).1 ∧ Only (regS b mb lb) w w' := by
  obtain ⟨vi, vo, c, hT⟩ := h.at_
  have hf := fine_drop h.fine x
  cases x
  · simp only [TS.drop, TS.dropR] at hf ⊢
    by_cases h0 : s.oa = 0
    · simp only [if_pos h0] at hf ⊢
      exact (drop_r0 hT h0).mono fun e w' ⟨he, hw⟩ => ⟨he, hw ▸ h, hw ▸ onl_refl _ _⟩
    · simp only [if_neg h0] at hf ⊢
      exact (drop_r hT h0).mono fun e w' ⟨he, hT', hO⟩ => ⟨he, h.onl ⟨_, _, _, hT'⟩ hf hO, hO⟩
  · simp only [TS.drop, TS.dropW] at hf ⊢
    by_cases h0 : s.ia = 0
    · simp only [if_pos h0] at hf ⊢
      exact (drop_w0 hT h0).mono fun e w' ⟨he, hw⟩ => ⟨he, hw ▸ h, hw ▸ onl_refl _ _⟩
    · simp only [if_neg h0] at hf ⊢
      exact (drop_w hT (h.fine.ok.ia.resolve_left h0)).mono fun e w' ⟨he, hT', hO⟩ => ⟨he, h.onl ⟨_, _, _, hT'⟩ hf hO, hO⟩
theorem ctx_read (h : Ctx W w b mb lb s) :
    Calls Tryd.prog 17 #[.pointer (some ⟨b, 0, none⟩)] w fun e w' => e = .returned (.int .i64 s.rd.2) ∧ Ctx W w' b mb lb s.rd.1 ∧ Only (regS b mb lb) w w' := by
  obtain ⟨vi, vo, c, hT⟩ := h.at_
  have hf := fine_rd h.fine
  simp only [TS.rd] at hf ⊢
  by_cases h0 : s.oa = 0
  · simp only [if_pos h0] at hf ⊢
    exact (read_begin hT h0).mono fun e w' ⟨he, hT', hO⟩ => ⟨he, h.onl ⟨_, _, _, hT'⟩ hf hO, hO⟩
  · simp only [if_neg h0] at hf ⊢
    exact (read_busy hT h0).mono fun e w' ⟨he, hw⟩ => ⟨he, hw ▸ h, hw ▸ onl_refl _ _⟩
theorem ctx_write (h : Ctx W w b mb lb s) {v : Value} {l : List Int} (hv : IntsIn w v l) (hl : l.length = s.W) (hr : ∀ x ∈ l, okWord x) (h0 : s.ia = 0) :
    Calls Tryd.prog 16 #[.pointer (some ⟨b, 0, none⟩), v] w fun e w' => e = .returned (.int .i64 0) ∧ Ctx W w' b mb lb (s.wrt l) ∧ Only (regS b mb lb) w w' := by
  obtain ⟨vi, vo, c, hT⟩ := h.at_
  exact (write_begin hT h.fine.ok h0 hv hl hr).mono fun e w' ⟨he, vi', hT', hO⟩ => ⟨he, h.onl ⟨_, _, _, hT'⟩ (fine_wrt h.fine hl hr) hO, hO⟩
theorem ctx_step (h : Ctx W w b mb lb s) (x : Bool) :
    Calls Tryd.prog 18 #[.pointer (some ⟨b, 0, none⟩), .bool x] w fun e w' => ∃ v, e = .returned (.tuple #[v, .bool (s.step x).2.2.1, .int .i64 (s.step x).2.2.2]) ∧
      Ctx W w' b mb lb (s.step x).1 ∧ Only (regS b mb lb) w w' ∧ IntsIn w' v (s.step x).2.1 ∧ ∀ g, v.ownBlock = some g → w.heap.size ≤ g := by
  obtain ⟨vi, vo, c, hT⟩ := h.at_
  have hf := fine_step h.fine x
  have hno : ∀ g, (Value.slice none 0 0).ownBlock = some g → w.heap.size ≤ g := fun g hg => by simp [Value.ownBlock] at hg
  have hm := ok_mid h.fine.ok
  cases x
  · simp only [TS.step, TS.stepR] at hf ⊢
    by_cases h0 : s.oa = 0
    · simp only [if_pos h0] at hf ⊢
      exact (step_idle_r hT h0).mono fun e w' ⟨he, hw⟩ => ⟨_, he, hw ▸ h, hw ▸ onl_refl _ _, IntsIn.nil _, hno⟩
    simp only [if_neg h0] at hf ⊢
    by_cases h1 : s.oa = 1
    · simp only [if_pos h1] at hf ⊢
      exact (step_r_quiet hT h0 (read_asks hT h.fine.ok h1 _ hm.1)).mono fun e w' ⟨he, vo', hT', hO⟩ => ⟨_, he, h.onl ⟨_, _, _, hT'⟩ hf hO, hO, IntsIn.nil _, hno⟩
    simp only [if_neg h1] at hf ⊢
    by_cases h2 : s.oa = 2
    · simp only [if_pos h2] at hf ⊢
      exact (step_r_quiet hT h0 (read_swaps hT h.fine.ok h2 _ hm.1)).mono fun e w' ⟨he, vo', hT', hO⟩ => ⟨_, he, h.onl ⟨_, _, _, hT'⟩ hf hO, hO, IntsIn.nil _, hno⟩
    simp only [if_neg h2] at hf ⊢
    have h3 : s.oa = 3 := by have := h.fine.ok.oa; omega
    have hl := h.fine.ok.ol h3
    by_cases h4 : s.ol.length + 1 < s.W
    · simp only [if_pos h4] at hf ⊢
      exact (step_r_word hT h.fine.ok h3 _ (ok_next h.fine.ok h3) h4).mono fun e w' ⟨he, vo', hT', hO⟩ => ⟨_, he, h.onl ⟨_, _, _, hT'⟩ hf hO, hO, IntsIn.nil _, hno⟩
    · simp only [if_neg h4] at hf ⊢
      exact (step_r_last hT h.fine.ok h3 _ (ok_next h.fine.ok h3) (by omega)).mono fun e w' ⟨v, he, vo', hT', hO, hv, hg⟩ => ⟨v, he, h.onl ⟨_, _, _, hT'⟩ hf hO, hO, hv, hg⟩
  · simp only [TS.step, TS.stepW] at hf ⊢
    by_cases h0 : s.ia = 0
    · simp only [if_pos h0] at hf ⊢
      exact (step_idle_w hT h0).mono fun e w' ⟨he, hw⟩ => ⟨_, he, hw ▸ h, hw ▸ onl_refl _ _, IntsIn.nil _, hno⟩
    simp only [if_neg h0] at hf ⊢
    have h3 := h.fine.ok.ia.resolve_left h0
    by_cases h1 : s.inn < s.W
    · simp only [if_pos h1] at hf ⊢
      exact (step_w_more hT h.fine.ok h3 h1 _ (ok_il h.fine.ok h0 h1)).mono fun e w' ⟨he, hT', hO⟩ => ⟨_, he, h.onl ⟨_, _, _, hT'⟩ hf hO, hO, IntsIn.nil _, hno⟩
    · simp only [if_neg h1] at hf ⊢
      have hn : s.inn = s.W := by have := (h.fine.ok.il h3).2.1; omega
      exact (step_w_last hT h.fine.ok h3 hn _ hm.1).mono fun e w' ⟨he, hT', hO⟩ => ⟨_, he, h.onl ⟨_, _, _, hT'⟩ hf hO, hO, IntsIn.nil _, hno⟩
end
end Go.Proofs.YtdhbiogcaekbbaaDoor
