/- The register of three slots: a turn of the writer, in the laws. -/
import Derived.Test.YtdhbiogcaekbbaaDoorTripleK
import Derived.Deep.CutBlock
namespace Go.Proofs.YtdhbiogcaekbbaaDoor
open Go.RowKit

def wCells (b begun over low last : Nat) : Array Value := #[.pointer (some ⟨b, 0, none⟩), .int .i64 begun, .int .i64 over, .int .i64 low, .int .i64 last, .bool true]
structure WAt (W w : World) (b mb lb : Nat) (s : TS) (begun over low last : Nat) : Prop where
  c : Ctx W w b mb lb s
  k : Blk w s.x 28 (wCells b begun over low last)
  hx : W.heap.size ≤ s.x
  hr : ¬ regS b mb lb s.x
  inv : Inv s begun over low last
section
variable {W w w' : World} {b mb lb : Nat} {s s' : TS} {begun over low last : Nat}
theorem WAt.below (h : WAt W w b mb lb s begun over low last) (hb : Below w.heap.size w w') : WAt W w' b mb lb s begun over low last :=
  ⟨h.c.below hb, h.k.below hb h.k.lt, h.hx, h.hr, h.inv⟩
theorem WAt.onl (h : WAt W w b mb lb s begun over low last) {begun' over' low' last' : Nat} (hO : Only (regS b mb lb) w w') (hC : Ctx W w' b mb lb s') (hxe : s'.x = s.x) (hk : Blk w s.x 28 (wCells b begun' over' low' last')) (hi : Inv s' begun' over' low' last') : WAt W w' b mb lb s' begun' over' low' last' :=
  ⟨hC, by rw [hxe]; exact blk_onl hk hO h.hr, by rw [hxe]; exact h.hx, by rw [hxe]; exact h.hr, hi⟩
theorem WAt.set (h : WAt W w b mb lb s begun over low last) (i : Nat) (u : Value) {begun' over' low' last' : Nat} (he : (wCells b begun over low last).setIfInBounds i u = wCells b begun' over' low' last') (hi : Inv s begun' over' low' last') : WAt W (w.setCell ⟨s.x, i, none⟩ u) b mb lb s begun' over' low' last' := by
  have := h.k.set i u
  rw [he] at this
  exact ⟨h.c.set i u h.hr h.hx, this, h.hx, h.hr, hi⟩
theorem WAt.k0 (h : WAt W w b mb lb s begun over low last) : w.cell? ⟨s.x, 0, none⟩ = some (.pointer (some ⟨b, 0, none⟩)) := (h.k.cell 0).trans rfl
theorem WAt.k1 (h : WAt W w b mb lb s begun over low last) : w.cell? ⟨s.x, 1, none⟩ = some (.int .i64 begun) := (h.k.cell 1).trans rfl
theorem WAt.k2 (h : WAt W w b mb lb s begun over low last) : w.cell? ⟨s.x, 2, none⟩ = some (.int .i64 over) := (h.k.cell 2).trans rfl
theorem WAt.k3 (h : WAt W w b mb lb s begun over low last) : w.cell? ⟨s.x, 3, none⟩ = some (.int .i64 low) := (h.k.cell 3).trans rfl
theorem WAt.k4 (h : WAt W w b mb lb s begun over low last) : w.cell? ⟨s.x, 4, none⟩ = some (.int .i64 last) := (h.k.cell 4).trans rfl
theorem WAt.k5 (h : WAt W w b mb lb s begun over low last) : w.cell? ⟨s.x, 5, none⟩ = some (.bool true) := (h.k.cell 5).trans rfl
theorem ints_blk {g n : Nat} {l : List Int} (h : Blk w g 3 (nums l).toArray) (hl : l.length = n) : IntsIn w (.slice (some ⟨g, 0, none⟩) n n) l := by
  subst hl
  refine ⟨_, _, rfl, Nat.le_refl _, fun _ => ⟨g, 0, rfl, fun i hi => ?_⟩⟩
  rw [Nat.zero_add, h.cell i, List.getElem?_toArray]
  exact nums_get l i hi
theorem nums_set (l : List Int) (i : Nat) (x : Int) : (nums l).toArray.setIfInBounds i (.int .i64 x) = (nums (l.set i x)).toArray := by
  unfold nums; rw [List.setIfInBounds_toArray, List.map_set]
def fill (n k : Nat) (v u : Int) : List Int := List.replicate k v ++ List.replicate (n - k) u
theorem fill_len (n k : Nat) (v u : Int) (h : k ≤ n) : (fill n k v u).length = n := by simp [fill]; omega
theorem fill_set (n k : Nat) (v u : Int) (h : k < n) : (fill n k v u).set k v = fill n (k + 1) v u := by
  apply List.ext_getElem?
  intro i
  unfold fill
  by_cases e : i = k
  · subst e
    rw [List.getElem?_set_self (by simp; omega), List.getElem?_append_left (by simp), List.getElem?_replicate, if_pos (by omega)]
  · rw [List.getElem?_set_ne (by omega)]
    rcases Nat.lt_or_ge i k with h' | h'
    · rw [List.getElem?_append_left (by simp; omega), List.getElem?_append_left (by simp; omega), List.getElem?_replicate, List.getElem?_replicate, if_pos h', if_pos (by omega)]
    · rw [List.getElem?_append_right (by simp; omega), List.getElem?_append_right (by simp; omega), List.getElem?_replicate, List.getElem?_replicate]
      simp only [List.length_replicate]
      by_cases h2 : i < n
      · rw [if_pos (by omega), if_pos (by omega)]
      · rw [if_neg (by omega), if_neg (by omega)]
end

set_option maxRecDepth 100000 in
set_option maxHeartbeats 3200000 in
theorem ww_any {W w : World} {b mb lb : Nat} {s : TS} {begun over low last : Nat} (h : WAt W w b mb lb s begun over low last) (hbg : begun ≤ 1000) :
    Calls Tryd.prog 12 #[.pointer (some ⟨s.x, 0, none⟩)] w fun e w' => e = .returned (.tuple #[]) ∧ ∃ s' begun' over', begun' ≤ begun + 1 ∧ WAt W w' b mb lb s' begun' over' low last ∧ s'.x = s.x ∧ s'.W = s.W := by
  have H := Lib.hid h
  have HBU := Lib.hid (ctx_busy h.c true)
  have hov := h.inv.ov
  have k0 := h.k0
  clear h
  go_enter Tryd.func12, Tryd.ntmps12
  go_wp2_with fail
  refine HBU.out.mono ?_
  rintro e w1 ⟨rfl, rfl⟩
  go_upto_if 12 with (fail)
  go_cut [2, 3] (fun _ _ wx => ∃ s1 begun1, begun1 ≤ begun + 1 ∧ WAt W wx b mb lb s1 begun1 over low last ∧ s1.ia ≠ 0 ∧ s1.x = s.x ∧ s1.W = s.W)
  case first =>
    by_cases hia : s.ia = 0
    · rw [show s.busy true = false by simp [TS.busy, hia]]
      have k1 := H.out.k1
      have f1 := H.out.k.fr 1
      have HW := Lib.hid (show WAt W (w.setCell ⟨s.x, 1, none⟩ (.int .i64 ((begun : Int) + 1))) b mb lb s (begun + 1) over low last from H.out.set 1 (.int .i64 ((begun : Int) + 1)) rfl (inv_up H.out.inv hia))
      go_wp2_with fail
      refine (ctx_words HW.out.c).mono ?_
      rintro e w1 ⟨rfl, rfl⟩
      generalize w.setCell ⟨s.x, 1, none⟩ (.int .i64 ((begun : Int) + 1)) = wm at *
      have hn1 := HW.out.c.fine.ok.w1
      have hn6 := HW.out.c.fine.ok.w6
      have hn := Lib.hid (rfl : s.W = s.W)
      generalize hne : s.W = n at *
      have hmk := fun W => run_make_row' (P := Tryd.prog) 38 3 (.int .i64 0) 8 Tryd.underlying38 infoInt rfl .i64 .i64 n (by omega) (by omega) W
      clear k0 k1 f1
      go_wp2
      have eV := Lib.hid (show ((begun : Int) + 1) = ((begun + 1 : Nat) : Int) by omega)
      go_loopw [3] (fun i wx => ∃ k : Nat, k ≤ n ∧ i = .int .i64 k ∧ Blk wx wm.heap.size 3 (nums (fill n k ((begun + 1 : Nat) : Int) 0)).toArray ∧ Only (fun j => j = wm.heap.size) (wm.alloc (.cells (madeCells #[.int .i64 0] n) 3)) wx) (fun i _ => n - (intOf i).toNat)
      case atStart => exact ⟨0, Nat.zero_le _, rfl, by have := Blk.new wm 3 (madeCells #[.int .i64 0] n); rw [nums_zeros] at this ⊢; simpa [fill] using this, onl_refl _ _⟩
      case round =>
        obtain ⟨k, hk, rfl, hB, hO⟩ := hrel
        have hBB : Below wm.heap.size wm wr := below_onl (below_alloc (Nat.le_refl _) (.cells (madeCells #[.int .i64 0] n) 3)) hO (by simp) (fun k e => by omega)
        have HWr := Lib.hid (HW.out.below hBB)
        have k1 := HWr.out.k1
        by_cases hlt : k < n
        · have ck : wr.cell? ⟨wm.heap.size, k, none⟩ = some (.int .i64 0) := by
            rw [hB.cell k, List.getElem?_toArray, nums_get _ _ (by rw [fill_len _ _ _ _ hk]; exact hlt)]
            simp [fill]
          have fk := hB.fr k
          have hBn := hB.set k (.int .i64 ((begun + 1 : Nat) : Int))
          rw [nums_set, fill_set _ _ _ _ hlt] at hBn
          have HBN := Lib.hid hBn
          have HON := Lib.hid (onl_set (S := fun j => j = wm.heap.size) hO (p := ⟨wm.heap.size, k, none⟩) (.inl rfl) (.int .i64 ((begun + 1 : Nat) : Int)))
          have b1 : (k : Int) < (n : Int) := by omega
          have b0 : (0 : Int) ≤ (k : Int) := by omega
          clear hB hO hBB hBn
          go_wp2
          go_round
          case rel => exact ⟨k + 1, by omega, by go_num, HBN.out, HON.out⟩
          case measure => simp [intOf]; omega
        · obtain rfl : k = n := by omega
          have hI := ints_blk hB (fill_len _ _ _ _ hk)
          rw [show fill k k ((begun + 1 : Nat) : Int) 0 = List.replicate s.W ((begun + 1 : Nat) : Int) by simp [fill, hne]] at hI
          have k0 := HWr.out.k0
          have k5 := HWr.out.k5
          have HC := Lib.hid (ctx_write HWr.out.c hI (by simp) (fun x hx => by have := (List.mem_replicate.1 hx).2; subst this; unfold okWord; omega) hia)
          clear hB hO hBB hI k1 hlt
          go_wp2_with fail
          refine HC.out.mono ?_
          rintro e w3 ⟨rfl, hC3, hO3⟩
          have HW3 := Lib.hid (HWr.out.onl (begun' := begun + 1) (over' := over) (low' := low) (last' := last) hO3 hC3 rfl HWr.out.k (inv_wrt HWr.out.inv))
          clear hC3 hO3 HC k0 k5
          have k5 : w3.cell? ⟨s.x, 5, none⟩ = some (.bool true) := HW3.out.k5
          have f5 : w3.frozen? ⟨s.x, 5, none⟩ = false := HW3.out.k.fr 5
          have HW4 := Lib.hid (HW3.out.set 5 (.bool true) (begun' := begun + 1) (over' := over) (low' := low) (last' := last) rfl HW3.out.inv)
          go_wp2_with fail
          go_meet
          exact ⟨_, begun + 1, Nat.le_refl _, HW4.out, by simp [TS.wrt], rfl, hne⟩
    · rw [show s.busy true = true by simp [TS.busy]; omega]
      go_wp2_with fail
      go_meet
      exact ⟨s, begun, by omega, H.out, hia, rfl, rfl⟩
  case rest =>
    obtain ⟨s1, begun1, hb1, hW1, hia1, hx1, hw1⟩ := hcut
    have hst := ctx_step hW1.c true
    obtain ⟨hI1, hI2, hI3⟩ := inv_stepW hW1.inv hW1.c.fine hia1
    have hsx := step_x s1 true
    have hf1 : (s1.step true).2.2.2 = 0 := hI1
    have hf2 : (s1.step true).2.1 = [] := hI2
    have hf3 : Inv (s1.step true).1 begun1 (if (s1.step true).2.2.1 then begun1 else over) low last := hI3
    rw [hf1, hf2] at hst
    have HST := Lib.hid hst
    have HX := Lib.hid hsx
    have HF := Lib.hid hf3
    have H1 := Lib.hid hW1
    have k0 := hW1.k0
    rw [hx1] at k0
    clear hst hI1 hI2 hI3 hf1 hf2 hf3 hsx hW1 hia1
    generalize (s1.step true).1 = s2 at *
    generalize (s1.step true).2.2.1 = d at *
    go_wp2_with fail
    refine HST.out.mono ?_
    rintro e w2 ⟨v, rfl, hC, hO, hi, -⟩
    obtain ⟨A, cc, rfl⟩ := hi.form
    have hk2 := blk_onl H1.out.k hO H1.out.hr
    have hr2 := H1.out.hr
    have hx2 := H1.out.hx
    rw [← HX.out.1] at hk2 hr2 hx2
    have e2 : s2.x = s.x := HX.out.1.trans hx1
    have e3 : s2.W = s.W := HX.out.2.trans hw1
    rw [← e2] at k0 ⊢
    have HC := Lib.hid hC
    have HK := Lib.hid hk2
    have c1 : w2.cell? ⟨s2.x, 1, none⟩ = some (.int .i64 begun1) := (hk2.cell 1).trans rfl
    have c2 : w2.cell? ⟨s2.x, 2, none⟩ = some (.int .i64 over) := (hk2.cell 2).trans rfl
    have c5 : w2.cell? ⟨s2.x, 5, none⟩ = some (.bool true) := (hk2.cell 5).trans rfl
    have f2 := hk2.fr 2
    have f5 := hk2.fr 5
    have HR := Lib.hid (And.intro hr2 hx2)
    have HE := Lib.hid (And.intro e2 e3)
    have HB1 := Lib.hid hb1
    clear hC hO hi hk2 hr2 hx2 HST HX H1 e2 e3 k0 hb1 hx1 hw1
    cases d
    · have HW := Lib.hid (show WAt W (w2.setCell ⟨s2.x, 5, none⟩ (.bool true)) b mb lb s2 begun1 over low last from ⟨HC.out.set 5 _ HR.out.1 HR.out.2, HK.out.set 5 (.bool true), HR.out.2, HR.out.1, HF.out⟩)
      go_wp2_with fail
      go_end0
      exact ⟨rfl, s2, begun1, over, HB1.out, HW.out, HE.out.1, HE.out.2⟩
    · have HW := Lib.hid (show WAt W ((w2.setCell ⟨s2.x, 2, none⟩ (.int .i64 begun1)).setCell ⟨s2.x, 5, none⟩ (.bool true)) b mb lb s2 begun1 begun1 low last from ⟨(HC.out.set 2 _ HR.out.1 HR.out.2).set 5 _ HR.out.1 HR.out.2, (HK.out.set 2 (.int .i64 begun1)).set 5 (.bool true), HR.out.2, HR.out.1, HF.out⟩)
      go_wp2_with fail
      go_end0
      exact ⟨rfl, s2, begun1, begun1, HB1.out, HW.out, HE.out.1, HE.out.2⟩
end Go.Proofs.YtdhbiogcaekbbaaDoor
