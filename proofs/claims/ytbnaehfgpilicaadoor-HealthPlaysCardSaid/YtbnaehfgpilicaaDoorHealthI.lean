/- A log, as the laws see it; lives. -/
import Derived.Test.YtbnaehfgpilicaaDoorHealthH
namespace Go.Proofs.YtbnaehfgpilicaaDoor
open Go.RowKit

/-- The log, made by the law itself, above all that was there. -/
structure HCtx (W w : World) (b : Nat) (l : List Ev) : Prop where
  at_ : LogAt w b l
  bel : Below W.heap.size W w
  ge : W.heap.size ≤ b
def tellL (l : List Ev) (e : Ev) : List Ev := if okK e.k then l ++ [e] else l
def tellE (e : Ev) : Int := if okK e.k then 0 else 3
def lastE (l : List Ev) : Ev := l.getLast?.getD ev0
def countL (l : List Ev) (k : Int) : Nat := if okK k then cntK l k else 0
theorem tellL_len (l : List Ev) (e : Ev) : (tellL l e).length ≤ l.length + 1 := by unfold tellL; split <;> simp
theorem tellL_ok {l : List Ev} (h : ∀ e ∈ l, okK e.k) (e : Ev) : ∀ a ∈ tellL l e, okK a.k := by
  unfold tellL
  split
  · next he =>
    intro a ha
    rcases List.mem_append.1 ha with h' | h'
    · exact h a h'
    · rw [List.mem_singleton.1 h']; exact he
  · exact h
section
variable {W w w' : World} {b : Nat} {l : List Ev}
theorem HCtx.below (h : HCtx W w b l) (hb : Below w.heap.size w w') : HCtx W w' b l := ⟨LogG.below h.at_ hb h.at_.lt, h.bel.trans (hb.mono h.bel.size), h.ge⟩
theorem HCtx.drewN (h : HCtx W w b l) (n : Nat) : HCtx W (w.drewN n) b l := h.below (below_drewN' w n)
theorem hctx_new (h : Below W.heap.size W w) : Calls Tryd.prog 14 #[] w fun r w' => r = .returned (.pointer (some ⟨w.heap.size, 0, none⟩)) ∧ HCtx W w' w.heap.size [] :=
  (new_any w).mono fun _ _ ⟨hr, hP, hB⟩ => ⟨hr, hP, h.trans (hB.mono h.size), h.size⟩
theorem hctx_tell (h : HCtx W w b l) (e : Ev) (hl : l.length ≤ 99999) :
    Calls Tryd.prog 16 #[.pointer (some ⟨b, 0, none⟩), .agg e.cells] w fun r w' => r = .returned (.int .i64 (tellE e)) ∧ HCtx W w' b (tellL l e) ∧ Only (fun k => k = b) w w' := by
  unfold tellE tellL
  by_cases hk : okK e.k
  · rw [if_pos hk, if_pos hk]
    exact (tell_ok h.at_ e hk (by omega)).mono fun _ _ ⟨hr, hP, hG⟩ => ⟨hr, ⟨hP, below_only h.bel hG h.bel.size h.ge, h.ge⟩, ⟨hG.os, hG.tape, hG.output, hG.size, fun k hk hn => hG.block k hk (by simp; exact hn)⟩⟩
  · rw [if_neg hk, if_neg hk]
    exact (tell_no (some b) e w (.inr hk)).mono fun _ _ ⟨hr, hB⟩ => ⟨hr, h.below hB, onl_below hB⟩
theorem hctx_all (h : HCtx W w b l) (hl : l.length ≤ 100000) :
    Calls Tryd.prog 18 #[.pointer (some ⟨b, 0, none⟩)] w fun r w' => ∃ v, r = .returned v ∧ EvsIn w' v (lastOf l) ∧ HCtx W w' b l ∧ Below w.heap.size w w' :=
  (all_any h.at_ hl).mono fun _ _ ⟨v, hr, ho, hb⟩ => ⟨v, hr, EvsIn.of_own ho, h.below hb, hb⟩
theorem hctx_of (h : HCtx W w b l) (hl : l.length ≤ 100000) (p : Int) :
    Calls Tryd.prog 23 #[.pointer (some ⟨b, 0, none⟩), .int .i64 p] w fun r w' => ∃ v, r = .returned v ∧ EvsIn w' v (ofP l p) ∧ HCtx W w' b l ∧ Below w.heap.size w w' :=
  (of_any h.at_ hl p).mono fun _ _ ⟨v, hr, ho, hb⟩ => ⟨v, hr, EvsIn.of_own ho, h.below hb, hb⟩
theorem hctx_last (h : HCtx W w b l) (hl : l.length ≤ 100000) :
    Calls Tryd.prog 17 #[.pointer (some ⟨b, 0, none⟩)] w fun r w' => r = .returned (.tuple #[.agg (lastE l).cells, .bool (decide (0 < l.length))]) ∧ HCtx W w' b l ∧ Below w.heap.size w w' := by
  by_cases h0 : 0 < l.length
  · have e1 : lastE l = l[l.length - 1] := by unfold lastE; rw [List.getLast?_eq_getElem?, List.getElem?_eq_getElem (by omega)]; rfl
    rw [decide_eq_true h0, e1]
    exact (last_some h.at_ hl _ h0 rfl).mono fun _ _ ⟨hr, hB⟩ => ⟨hr, h.below hB, hB⟩
  · obtain rfl : l = [] := List.eq_nil_of_length_eq_zero (by omega)
    exact (last_none (some b) w (fun b' e => by injection e with e; subst e; exact h.at_)).mono fun _ _ ⟨hr, hB⟩ => ⟨hr, h.below hB, hB⟩
theorem hctx_count (h : HCtx W w b l) (k : Int) :
    Calls Tryd.prog 20 #[.pointer (some ⟨b, 0, none⟩), .int .i64 k] w fun r w' => r = .returned (.int .i64 (countL l k)) ∧ w = w' := by
  unfold countL
  by_cases hk : okK k
  · rw [if_pos hk]; exact count_yes h.at_ k hk
  · rw [if_neg hk]; exact count_no (some b) k w hk
end
/-! ### lives -/
def evs (n : Nat) : List Ev := (List.range n).map fun (j : Nat) => (⟨(j : Int) % 6, (j : Int), 0, 0, 0⟩ : Ev)
theorem evs_len (n : Nat) : (evs n).length = n := by simp [evs]
theorem evs_next (n : Nat) : tellL (evs n) ⟨(n : Int) % 6, (n : Int), 0, 0, 0⟩ = evs (n + 1) := by
  unfold tellL evs
  rw [if_pos (by unfold okK; simp only; omega), List.range_succ, List.map_append]
  rfl
theorem evs_last : lastE (evs 70) = ⟨3, 69, 0, 0, 0⟩ := by rfl
theorem line_69 : lineL ⟨3, 69, 0, 0, 0⟩ = [54, 57, 32, 102, 97, 117, 108, 116, 32, 48, 32, 48, 32, 48] := by
  simp [lineL, fiveB, Lib.join_cons, Lib.joinTail, numB, wordB, Lib.itoa, Lib.decDigits]
set_option maxRecDepth 100000 in
set_option maxHeartbeats 3200000 in
theorem lives_any (w : World) : Calls Tryd.prog 9 #[] w fun r w' => r = .returned (.bool true) ∧ Below w.heap.size w w' := by
  have HL := Lib.hid line_69
  go_enter Tryd.func9, Tryd.ntmps9
  go_wp2_with fail
  refine (hctx_new (Below.refl w.heap.size w)).mono ?_
  rintro r w1 ⟨rfl, hC⟩
  have HC := Lib.hid hC
  clear hC
  go_wp2_with fail
  go_loopw [2] (fun i wr => ∃ k : Nat, k ≤ 70 ∧ i = .int .i64 k ∧ HCtx w wr w.heap.size (evs k)) (fun i _ => 70 - (intOf i).toNat)
  case atStart => exact ⟨0, by omega, rfl, HC.out⟩
  case round =>
    clear HC
    obtain ⟨k, hk, rfl, hC⟩ := hrel
    have HC := Lib.hid hC
    clear hC
    by_cases hlt : k < 70
    · have b1 : (k : Int) < 70 := by omega
      have HN := Lib.hid (evs_next k)
      have HT := Lib.hid (hctx_tell HC.out ⟨(k : Int) % 6, (k : Int), 0, 0, 0⟩ (by rw [evs_len]; omega))
      clear HC
      go_wp2_with fail
      refine HT.out.mono ?_
      rintro r w2 ⟨rfl, hC, -⟩
      rw [HN.out] at hC
      have HC := Lib.hid hC
      clear hC
      go_wp2_with fail
      go_roundw
      case rel => exact ⟨k + 1, by omega, by go_num, HC.out⟩
      case measure => simp [intOf]; omega
    · obtain rfl : k = 70 := by omega
      have b1 : ¬ ((70 : Nat) : Int) < 70 := by omega
      have hlen : (evs 70).length = 70 := evs_len 70
      go_wp2_with fail
      refine (hctx_last HC.out (by omega)).mono ?_
      rintro r w2 ⟨rfl, hC, -⟩
      rw [evs_last, hlen]
      have HC2 := Lib.hid (hC.below (below_alloc (Nat.le_refl _) (.cells #[.int .i64 3, .int .i64 69, .int .i64 0, .int .i64 0, .int .i64 0] 23)))
      clear hC HC
      unfold Ev.cells
      go_wp2_with fail
      refine (hctx_all HC2.out (by omega)).mono ?_
      rintro r w3 ⟨v, rfl, hE, hC, hb⟩
      obtain ⟨A, c, rfl⟩ := hE.form
      rw [lastOf_len', hlen]
      have HC3 := Lib.hid hC
      have hg : goneOf (evs 70) = 6 := by unfold goneOf; omega
      have hcell : ∀ j, j < 5 → w3.cell? ⟨w2.heap.size, j, none⟩ = (#[.int .i64 3, .int .i64 69, .int .i64 0, .int .i64 0, .int .i64 0] : Array Value)[j]? := fun j _ =>
        (hb.cell (p := ⟨w2.heap.size, j, none⟩) (by simp)).trans (World.cell?_alloc_at _ _ _ _ rfl)
      have x0 := hcell 0 (by omega)
      have x1 := hcell 1 (by omega)
      have x2 := hcell 2 (by omega)
      have x3 := hcell 3 (by omega)
      have x4 := hcell 4 (by omega)
      simp only [List.getElem?_toArray, List.getElem?_cons_zero, List.getElem?_cons_succ] at x0 x1 x2 x3 x4
      have HG := Lib.hid (gone_any HC3.out.at_ (by omega))
      rw [hg] at HG
      have HLI := Lib.hid (line_yes (w := w3) ⟨3, 69, 0, 0, 0⟩ (by unfold okK; simp) (by unfold evFits; simp) (itoa_small _ _ (by simp) (by simp)) (itoa_small _ _ (by simp) (by simp)) (itoa_small _ _ (by simp) (by simp)) (itoa_small _ _ (by simp) (by simp)))
      rw [HL.out] at HLI
      unfold Ev.cells at HLI
      clear hC hE hb hcell hg HL hlen
      go_wp2_with fail
      refine HG.out.mono ?_
      rintro r w4 ⟨rfl, rfl⟩
      go_wp2_with fail
      refine HLI.out.mono ?_
      rintro r w4 ⟨rfl, hb⟩
      have HB := Lib.hid (HC3.out.bel.trans (hb.mono HC3.out.bel.size))
      clear hb
      go_wp2_with fail
      go_ret
      exact ⟨rfl, HB.out⟩
end Go.Proofs.YtbnaehfgpilicaaDoor
