/- A register of four slots: its accesses in plain Lean, and the register as the laws see it. -/
import Derived.Test.YtmcelldklmjlkaaDoorFourH
namespace Go.Proofs.YtmcelldklmjlkaaDoor
open Go.RowKit

def FS.g (s : FS) (i : Nat) : Nat := (s.mem[i]?.getD 0).toNat
def FS.widx (s : FS) (i : Nat) : Nat := 4 + (2 * s.ip + s.iq) * s.W + i
def FS.ridx (s : FS) (i : Nat) : Nat := 4 + (2 * s.op + s.oq) * s.W + i
/-- The write's next access. -/
def FS.accW (s : FS) : FS :=
  if s.iw = s.W + 4 then { s with ip := 1 - s.g 1 }
  else if s.iw = s.W + 3 then { s with iq := 1 - s.g (2 + s.ip) }
  else if 2 < s.iw then { s with mem := s.mem.set (s.widx (s.W + 2 - s.iw)) (s.il[s.W + 2 - s.iw]?.getD 0) }
  else if s.iw = 2 then { s with mem := s.mem.set (2 + s.ip) (s.iq : Int) }
  else { s with mem := s.mem.set 0 (s.ip : Int) }
/-- The read's next access. -/
def FS.accR (s : FS) : FS :=
  if s.ow = s.W + 3 then { s with op := s.g 0 }
  else if s.ow = s.W + 2 then { s with mem := s.mem.set 1 (s.op : Int) }
  else if s.ow = s.W + 1 then { s with oq := s.g (2 + s.op) }
  else { s with ol := s.ol ++ [s.mem[s.ridx (s.W - s.ow)]?.getD 0] }
def FS.stepW (s : FS) : FS × List Int × Bool × Int :=
  if s.iw = 0 then (s, [], false, 2) else ({ s.accW with iw := s.iw - 1 }, [], decide (s.iw = 1), 0)
def FS.stepR (s : FS) : FS × List Int × Bool × Int :=
  if s.ow = 0 then (s, [], false, 2) else ({ s.accR with ow := s.ow - 1 }, if s.ow = 1 then s.accR.ol else [], decide (s.ow = 1), 0)
def FS.step (s : FS) : Bool → FS × List Int × Bool × Int
  | true => s.stepW
  | false => s.stepR
def FS.left (s : FS) : Bool → Nat
  | true => s.iw
  | false => s.ow
def FS.drop (s : FS) : Bool → FS
  | true => { s with iw := 0 }
  | false => { s with ow := 0 }
def FS.wrt (s : FS) (l : List Int) : FS := { s with iw := s.W + 4, il := l }
def FS.wr (s : FS) (l : List Int) : FS × Int :=
  if l.length = s.W ∧ allOk l then (if s.iw = 0 then (s.wrt l, 0) else (s, 1)) else (s, 3)
def FS.rd (s : FS) : FS × Int := if s.ow = 0 then ({ s with ow := s.W + 3, ol := [] }, 0) else (s, 1)
def FS.new (W : Nat) : FS := { W := W, mem := List.replicate (4 + 4 * W) 0, iw := 0, ip := 0, iq := 0, il := [], ow := 0, op := 0, oq := 0, ol := [] }
structure FS.ok (s : FS) : Prop where
  w1 : 1 ≤ s.W
  w6 : s.W ≤ 6
  len : s.mem.length = 4 + 4 * s.W
  bit : ∀ i, i < 4 → s.mem[i]? = some ((s.g i : Nat) : Int) ∧ s.g i ≤ 1
  ip : s.ip ≤ 1
  iq : s.iq ≤ 1
  op : s.op ≤ 1
  oq : s.oq ≤ 1
  iw : s.iw ≤ s.W + 4
  il : s.iw ≠ 0 → s.il.length = s.W ∧ allOk s.il
  ow : s.ow ≤ s.W + 3
  ol : s.ow ≠ 0 → s.ol.length = s.W - s.ow
  ol' : s.ol.length ≤ s.W
section
variable {s : FS}
theorem ok_new (W : Nat) (h1 : 1 ≤ W) (h6 : W ≤ 6) : (FS.new W).ok := by
  refine ⟨h1, h6, by simp [FS.new], fun i hi => ?_, by simp [FS.new], by simp [FS.new], by simp [FS.new], by simp [FS.new], by simp [FS.new], fun e => absurd rfl e, by simp [FS.new], fun e => absurd rfl e, by simp [FS.new]⟩
  have e : (FS.new W).mem[i]? = some 0 := by
    unfold FS.new
    simp only [List.getElem?_replicate]
    rw [if_pos (by omega)]
  have e2 : (FS.new W).g i = 0 := by unfold FS.g; rw [e]; rfl
  rw [e2, e]
  exact ⟨rfl, by omega⟩
theorem slot_lt (h : s.ok) {p q i : Nat} (hp : p ≤ 1) (hq : q ≤ 1) (hi : i < s.W) : 4 + (2 * p + q) * s.W + i < s.mem.length := by
  have h1 : (2 * p + q) * s.W ≤ 3 * s.W := Nat.mul_le_mul_right _ (by omega)
  have := h.len
  omega
theorem g_set_off {s s' : FS} {i m : Nat} {v : Int} (hm : s'.mem = s.mem.set m v) (hi : m ≠ i) : s'.g i = s.g i := by
  unfold FS.g
  rw [hm, List.getElem?_set_ne hi]
theorem bit_off (h : s.ok) {s' : FS} {m : Nat} {v : Int} (hm : s'.mem = s.mem.set m v) (h4 : 4 ≤ m) : ∀ i, i < 4 → s'.mem[i]? = some ((s'.g i : Nat) : Int) ∧ s'.g i ≤ 1 := fun i hi => by
  rw [g_set_off hm (by omega), hm, List.getElem?_set_ne (by omega)]
  exact h.bit i hi
theorem bit_at (h : s.ok) {s' : FS} {m v : Nat} (hm : s'.mem = s.mem.set m (v : Int)) (h4 : m < 4) (hv : v ≤ 1) : ∀ i, i < 4 → s'.mem[i]? = some ((s'.g i : Nat) : Int) ∧ s'.g i ≤ 1 := fun i hi => by
  by_cases e : m = i
  · subst e
    have e1 : s'.mem[m]? = some (v : Int) := by rw [hm, List.getElem?_set_self (by have := h.len; omega)]
    have e2 : s'.g m = v := by unfold FS.g; rw [e1]; rfl
    rw [e2]
    exact ⟨e1, hv⟩
  · rw [g_set_off hm e, hm, List.getElem?_set_ne e]
    exact h.bit i hi
theorem ok_accW (h : s.ok) (h0 : s.iw ≠ 0) : ({ s.accW with iw := s.iw - 1 } : FS).ok := by
  have hiw := h.iw
  have hil := h.il h0
  unfold FS.accW
  have b1 := (h.bit 1 (by omega)).2
  have b2 := (h.bit (2 + s.ip) (by have := h.ip; omega)).2
  split
  · exact ⟨h.w1, h.w6, h.len, h.bit, Nat.sub_le 1 _, h.iq, h.op, h.oq, by simp only; omega, fun _ => hil, h.ow, h.ol, h.ol'⟩
  split
  · exact ⟨h.w1, h.w6, h.len, h.bit, h.ip, Nat.sub_le 1 _, h.op, h.oq, by simp only; omega, fun _ => hil, h.ow, h.ol, h.ol'⟩
  split
  · exact ⟨h.w1, h.w6, by simpa using h.len, bit_off h (m := s.widx (s.W + 2 - s.iw)) rfl (by unfold FS.widx; omega), h.ip, h.iq, h.op, h.oq, by simp only; omega, fun _ => hil, h.ow, h.ol, h.ol'⟩
  split
  · exact ⟨h.w1, h.w6, by simpa using h.len, bit_at h (m := 2 + s.ip) rfl (by have := h.ip; omega) h.iq, h.ip, h.iq, h.op, h.oq, by simp only; omega, fun _ => hil, h.ow, h.ol, h.ol'⟩
  · exact ⟨h.w1, h.w6, by simpa using h.len, bit_at h (m := 0) rfl (by omega) h.ip, h.ip, h.iq, h.op, h.oq, by simp only; omega, fun _ => hil, h.ow, h.ol, h.ol'⟩
theorem ok_accR (h : s.ok) (h0 : s.ow ≠ 0) : ({ s.accR with ow := s.ow - 1 } : FS).ok := by
  have how := h.ow
  have hol := h.ol h0
  have hol' := h.ol'
  unfold FS.accR
  have b1 := (h.bit 0 (by omega)).2
  have b2 := (h.bit (2 + s.op) (by have := h.op; omega)).2
  split
  · exact ⟨h.w1, h.w6, h.len, h.bit, h.ip, h.iq, b1, h.oq, h.iw, h.il, by simp only; omega, fun _ => by simp only; omega, h.ol'⟩
  split
  · exact ⟨h.w1, h.w6, by simpa using h.len, bit_at h (m := 1) rfl (by omega) h.op, h.ip, h.iq, h.op, h.oq, h.iw, h.il, by simp only; omega, fun _ => by simp only; omega, h.ol'⟩
  split
  · exact ⟨h.w1, h.w6, h.len, h.bit, h.ip, h.iq, h.op, b2, h.iw, h.il, by simp only; omega, fun _ => by simp only; omega, h.ol'⟩
  · exact ⟨h.w1, h.w6, h.len, h.bit, h.ip, h.iq, h.op, h.oq, h.iw, h.il, by simp only; omega, fun _ => by simp; omega, by simp; omega⟩
theorem ok_stepW (h : s.ok) : s.stepW.1.ok := by
  unfold FS.stepW
  split
  · exact h
  · exact ok_accW h (by assumption)
theorem ok_stepR (h : s.ok) : s.stepR.1.ok := by
  unfold FS.stepR
  split
  · exact h
  · exact ok_accR h (by assumption)
theorem ok_step (h : s.ok) (x : Bool) : (s.step x).1.ok := by cases x; exact ok_stepR h; exact ok_stepW h
theorem ok_drop (h : s.ok) (x : Bool) : (s.drop x).ok := by
  cases x
  · exact ⟨h.w1, h.w6, h.len, h.bit, h.ip, h.iq, h.op, h.oq, h.iw, h.il, by simp [FS.drop], fun e => absurd rfl e, h.ol'⟩
  · exact ⟨h.w1, h.w6, h.len, h.bit, h.ip, h.iq, h.op, h.oq, by simp [FS.drop], fun e => absurd rfl e, h.ow, h.ol, h.ol'⟩
theorem ok_wrt (h : s.ok) {l : List Int} (hl : l.length = s.W) (hk : allOk l) : (s.wrt l).ok :=
  ⟨h.w1, h.w6, h.len, h.bit, h.ip, h.iq, h.op, h.oq, Nat.le_refl _, fun _ => ⟨hl, hk⟩, h.ow, h.ol, h.ol'⟩
theorem ok_wr (h : s.ok) (l : List Int) : (s.wr l).1.ok := by
  unfold FS.wr
  split
  · rename_i hg
    split
    · exact ok_wrt h hg.1 hg.2
    · exact h
  · exact h
theorem ok_rd (h : s.ok) : s.rd.1.ok := by
  unfold FS.rd
  split
  · exact ⟨h.w1, h.w6, h.len, h.bit, h.ip, h.iq, h.op, h.oq, h.iw, h.il, Nat.le_refl _, fun _ => by simp only [List.length_nil]; omega, by simp⟩
  · exact h
end
/-! ### The register, made by the law itself, above all that was there -/
structure Ctx (W w : World) (b mb lb : Nat) (X : Nat → Prop) (s : FS) : Prop where
  at_ : ∃ Z vl vi vr vo c, FAt w W.heap.size b mb lb X Z s vl vi vr vo c ∧ LeftW w Z b s.W s.iw vl ∧ LeftR w Z b s.W s.ow vr
  ok : s.ok
  bel : Below W.heap.size W w
  gb : W.heap.size ≤ b
  gm : W.heap.size ≤ mb
  gl : W.heap.size ≤ lb
section
variable {W w w' : World} {b mb lb : Nat} {X Z : Nat → Prop} {s s' : FS} {vl vi vr vo vl' vi' vr' vo' : Value} {c c' : Int}
theorem Ctx.below (h : Ctx W w b mb lb X s) (hb : Below w.heap.size w w') : Ctx W w' b mb lb X s := by
  obtain ⟨Z, vl, vi, vr, vo, c, hF, hL, hR⟩ := h.at_
  have hk : ∀ g, Z g → w'.heap[g]? = w.heap[g]? := fun g hg => hb.block g (hF.z g hg).1
  exact ⟨⟨Z, vl, vi, vr, vo, c, hF.below hb, hL.keep hk, hR.keep hk⟩, h.ok, h.bel.trans (hb.mono h.bel.size), h.gb, h.gm, h.gl⟩
/-- All new blocks may be the law's own. -/
theorem Ctx.grow (h : Ctx W w b mb lb X s) (hb : Below w.heap.size w w') : Ctx W w' b mb lb (newX X w w') s := by
  obtain ⟨Z, vl, vi, vr, vo, c, hF, hL, hR⟩ := h.at_
  have hk : ∀ g, Z g → w'.heap[g]? = w.heap[g]? := fun g hg => hb.block g (hF.z g hg).1
  have h2 := hF.below hb
  have hbl := hF.r.lt
  have hml := hF.m.m.lt
  have hll := hF.m.d.lt
  refine ⟨⟨Z, vl, vi, vr, vo, c, ⟨h2.r, h2.m, h2.il, h2.ol, fun g hg => ⟨(h2.so g hg).1, (h2.so g hg).2.1, fun e => e.elim (h2.so g hg).2.2 fun e => by have := (hF.ol.lt g hg).2; omega⟩, fun k e => ⟨(h2.z k e).1, (h2.z k e).2.1, fun f => f.elim (h2.z k e).2.2 fun f => by have := (hF.z k e).1; omega⟩, fun k e => ?_⟩, hL.keep hk, hR.keep hk⟩, h.ok, h.bel.trans (hb.mono h.bel.size), h.gb, h.gm, h.gl⟩
  rcases e with e | e
  · exact h2.x k e
  · exact ⟨e.2, by unfold regS; omega⟩
/-- Stores into the law's own blocks. -/
theorem Ctx.onlX {S : Nat → Prop} (h : Ctx W w b mb lb X s) (hO : Only S w w') (h1 : ∀ k, S k → X k) (h2 : ∀ k, S k → W.heap.size ≤ k) : Ctx W w' b mb lb X s := by
  obtain ⟨Z, vl, vi, vr, vo, c, hF, hL, hR⟩ := h.at_
  have hk : ∀ g, Z g → w'.heap[g]? = w.heap[g]? := fun g hg => hO.block g (hF.z g hg).1 fun e => (hF.z g hg).2.2 (h1 g e)
  exact ⟨⟨Z, vl, vi, vr, vo, c, hF.onl hO (fun k e => (hF.x k (h1 k e)).2) (fun k e f => (hF.z k f).2.2 (h1 k e)) (fun g hg e => (hF.so g hg).2.2 (h1 g e)), hL.keep hk, hR.keep hk⟩, h.ok, below_onl h.bel hO h.bel.size h2, h.gb, h.gm, h.gl⟩
/-- The register's own turn. -/
theorem Ctx.turn (h : Ctx W w b mb lb X s) (hF0 : FAt w W.heap.size b mb lb X Z s vl vi vr vo c) (hO : Only (turnS b mb lb vo) w w') (hk : s'.ok)
    (hn : ∃ Z' vl' vi' vr' vo' c', FAt w' W.heap.size b mb lb X Z' s' vl' vi' vr' vo' c' ∧ LeftW w' Z' b s'.W s'.iw vl' ∧ LeftR w' Z' b s'.W s'.ow vr') : Ctx W w' b mb lb X s' ∧ Kept X w w' :=
  ⟨⟨hn, hk, below_onl h.bel hO h.bel.size fun k e => by
    rcases e with (rfl | rfl | rfl) | e
    · exact h.gb
    · exact h.gm
    · exact h.gl
    · exact (hF0.ol.lt k e).1, h.gb, h.gm, h.gl⟩, hF0.keptX hO⟩
theorem Ctx.lt (h : Ctx W w b mb lb X s) : ∀ k, X k → k < w.heap.size := by
  obtain ⟨Z, vl, vi, vr, vo, c, hF, -, -⟩ := h.at_
  exact fun k e => (hF.x k e).1
end
end Go.Proofs.YtmcelldklmjlkaaDoor
