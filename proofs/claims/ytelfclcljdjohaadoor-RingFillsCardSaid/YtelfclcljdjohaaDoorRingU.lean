/- Messages through a ring: a turn of who pushes, in the laws. -/
import Derived.Test.YtelfclcljdjohaaDoorRingT
import Derived.Deep.CutBlock
import Derived.StillTailTactics
namespace Go.Proofs.YtelfclcljdjohaaDoor
open Go.RowKit

def fCells (b : Nat) (f : FS) : Array Value := #[.pointer (some ⟨b, 0, none⟩), .int .i64 f.fin, .int .i64 f.out, .bool f.full, .bool f.low, .bool true]
structure FAt (W w : World) (b mb lb x : Nat) (f : FS) : Prop where
  c : Ctx W w b mb lb (fun k => k = x) f.s
  k : Blk w x 27 (fCells b f)
  hx : W.heap.size ≤ x
section
variable {W w w' : World} {b mb lb x : Nat} {f : FS}
theorem FAt.below (h : FAt W w b mb lb x f) (hb : Below w.heap.size w w') : FAt W w' b mb lb x f := ⟨h.c.below hb, h.k.below hb h.k.lt, h.hx⟩
theorem FAt.kept (h : FAt W w b mb lb x f) {s' : RS} (hC : Ctx W w' b mb lb (fun k => k = x) s') (hK : Kept (fun k => k = x) w w') : FAt W w' b mb lb x { f with s := s' } := ⟨hC, h.k.of (hK x rfl), h.hx⟩
theorem FAt.set (h : FAt W w b mb lb x f) (i : Nat) (u : Value) {f' : FS} (he : (fCells b f).setIfInBounds i u = fCells b f') (hs : f'.s = f.s) : FAt W (w.setCell ⟨x, i, none⟩ u) b mb lb x f' := by
  have := h.k.set i u
  rw [he] at this
  exact ⟨by rw [hs]; exact h.c.set x i u rfl h.hx, this, h.hx⟩
theorem FAt.k0 (h : FAt W w b mb lb x f) : w.cell? ⟨x, 0, none⟩ = some (.pointer (some ⟨b, 0, none⟩)) := (h.k.cell 0).trans rfl
theorem FAt.k1 (h : FAt W w b mb lb x f) : w.cell? ⟨x, 1, none⟩ = some (.int .i64 f.fin) := (h.k.cell 1).trans rfl
theorem FAt.k2 (h : FAt W w b mb lb x f) : w.cell? ⟨x, 2, none⟩ = some (.int .i64 f.out) := (h.k.cell 2).trans rfl
theorem FAt.k3 (h : FAt W w b mb lb x f) : w.cell? ⟨x, 3, none⟩ = some (.bool f.full) := (h.k.cell 3).trans rfl
theorem FAt.k4 (h : FAt W w b mb lb x f) : w.cell? ⟨x, 4, none⟩ = some (.bool f.low) := (h.k.cell 4).trans rfl
theorem FAt.k5 (h : FAt W w b mb lb x f) : w.cell? ⟨x, 5, none⟩ = some (.bool true) := (h.k.cell 5).trans rfl
theorem places_q {X : Nat → Prop} {s : RS} (h : Ctx W w b mb lb X s) :
    Calls Tryd.prog 12 #[.pointer (some ⟨b, 0, none⟩)] w fun e w' => e = .returned (.int .i64 s.P) ∧ w' = w :=
  (ctx_places h).mono fun _ _ ⟨he, hw⟩ => ⟨he, hw.symm⟩
theorem words_q {X : Nat → Prop} {s : RS} (h : Ctx W w b mb lb X s) :
    Calls Tryd.prog 11 #[.pointer (some ⟨b, 0, none⟩)] w fun e w' => e = .returned (.int .i64 s.W) ∧ w' = w :=
  (ctx_words h).mono fun _ _ ⟨he, hw⟩ => ⟨he, hw.symm⟩
end
theorem full_eq {f : FS} (h : FInv f) : (((f.fin : Int) - (f.out : Int)) == (f.s.P : Int)) = decide (f.fin - f.out = f.s.P) := by
  have := h.d1
  rw [Bool.eq_iff_iff]
  simp
  omega
set_option maxRecDepth 100000 in
set_option maxHeartbeats 3200000 in
theorem fpush_any {W w : World} {b mb lb x : Nat} {f : FS} (h : FAt W w b mb lb x f) (hi : FInv f) (hb : f.fin < 1000000) :
    Calls Tryd.prog 13 #[.pointer (some ⟨x, 0, none⟩)] w fun e w' => e = .returned (.tuple #[]) ∧ FAt W w' b mb lb x f.push := by
  have H := Lib.hid h
  have HBU := Lib.hid (ctx_busy h.c true)
  have HI := Lib.hid hi
  have k0 := h.k0
  clear h hi
  go_enter Tryd.func13, Tryd.ntmps13
  go_wp2_with fail
  refine HBU.out.mono ?_
  rintro e w1 ⟨rfl, rfl⟩
  go_upto_if 12 with (fail)
  go_cut [2, 3] (fun _ _ wx => FAt W wx b mb lb x f.begun)
  case first =>
    by_cases hia : f.s.ia = 0
    · rw [decide_eq_true hia]
      go_wp2_with fail
      refine (ctx_words H.out.c).mono ?_
      rintro e w1 ⟨rfl, rfl⟩
      have hn1 := H.out.c.ok.w1
      have hn6 := H.out.c.ok.w6
      generalize hne : f.s.W = n at *
      have hmk := fun W => run_make_row' (P := Tryd.prog) 32 3 (.int .i64 0) 8 Tryd.underlying32 infoInt rfl .i64 .i64 n (by omega) (by omega) W
      clear k0
      go_wp2
      go_loopw [3] (fun i wx => ∃ k : Nat, k ≤ n ∧ i = .int .i64 k ∧ Blk wx w.heap.size 3 (nums (fill n k ((f.fin : Int) + 1) 0)).toArray ∧ Only (fun j => j = w.heap.size) (w.alloc (.cells (madeCells #[.int .i64 0] n) 3)) wx) (fun i _ => n - (intOf i).toNat)
      case atStart => exact ⟨0, Nat.zero_le _, rfl, by have := Blk.new w 3 (madeCells #[.int .i64 0] n); rw [nums_zeros] at this ⊢; simpa [fill] using this, onl_refl _ _⟩
      case round =>
        obtain ⟨k, hk, rfl, hB, hO⟩ := hrel
        have hBB : Below w.heap.size w wr := below_onl (below_alloc (Nat.le_refl _) (.cells (madeCells #[.int .i64 0] n) 3)) hO (by simp) (fun k e => by omega)
        have HWr := Lib.hid (H.out.below hBB)
        have k1 := HWr.out.k1
        by_cases hlt : k < n
        · have ck : wr.cell? ⟨w.heap.size, k, none⟩ = some (.int .i64 0) := by
            rw [hB.cell k, List.getElem?_toArray, nums_get _ _ (by rw [fill_len _ _ _ _ hk]; exact hlt)]
            simp [fill]
          have fk := hB.fr k
          have hBn := hB.set k (.int .i64 ((f.fin : Int) + 1))
          rw [nums_set, fill_set _ _ _ _ hlt] at hBn
          have HBN := Lib.hid hBn
          have HON := Lib.hid (onl_set (S := fun j => j = w.heap.size) hO (p := ⟨w.heap.size, k, none⟩) (.inl rfl) (.int .i64 ((f.fin : Int) + 1)))
          have b1 : (k : Int) < (n : Int) := by omega
          have b0 : (0 : Int) ≤ (k : Int) := by omega
          clear hB hO hBB hBn
          go_wp2
          go_round
          case rel => exact ⟨k + 1, by omega, by go_num, HBN.out, HON.out⟩
          case measure => simp [intOf]; omega
        · obtain rfl : k = n := by omega
          have hI := ints_blk hB (fill_len _ _ _ _ hk)
          rw [fill_all, ← hne] at hI
          have k0 := HWr.out.k0
          have k5 := HWr.out.k5
          have HC := Lib.hid (ctx_push HWr.out.c hia hI (by simp) (ok_rep hb))
          clear hB hO hBB hI k1 hlt
          rw [hne] at HC
          go_wp2_with fail
          refine HC.out.mono ?_
          rintro e w3 ⟨rfl, hC3, hK3⟩
          have HW3 := Lib.hid (HWr.out.kept hC3 hK3)
          clear hC3 hK3 HC k0 k5
          have k5 := HW3.out.k5
          have f5 := HW3.out.k.fr 5
          have HW4 := Lib.hid (HW3.out.set 5 (.bool true) (f' := { f with s := f.s.pushed (List.replicate k ((f.fin : Int) + 1)) }) rfl rfl)
          have k0 := HW4.out.k0
          have k1 := HW4.out.k1
          have k2 := HW4.out.k2
          have k3 := HW4.out.k3
          have f3 := HW4.out.k.fr 3
          have hP8 := HI.out.ok.p8
          have hd1 := HI.out.d1
          have hd2 := HI.out.d2
          go_wp2_with fail
          generalize w3.setCell ⟨x, 5, none⟩ (.bool true) = w4 at *
          go_still_tail 18, (by kernel_rfl)
          still_call (places_q (HW4.out.below (Below.refl _ w4).drew).c)
          repeat still_step
          try refine wpStill_nil ?_
          change wpList _ _ _ _ _ w4.drew
          have HW5 := Lib.hid ((HW4.out.below (Below.refl _ w4).drew).set 3 (.bool (decide (f.fin - f.out = f.s.P))) (f' := f.begun) (by unfold FS.begun; rw [if_pos hia, hne]; rfl) (by unfold FS.begun; rw [if_pos hia, hne]))
          rw [show (f.s.pushed (List.replicate k ((f.fin : Int) + 1))).P = f.s.P from rfl, show IntKind.i64.wrap ((f.fin : Int) - (f.out : Int)) = (f.fin : Int) - (f.out : Int) by rw [IntKind.wrap_i64]; omega, full_eq HI.out]
          generalize decide (f.fin - f.out = f.s.P) = bb at *
          go_wp2_with fail
          go_meet
          exact HW5.out
    · rw [decide_eq_false hia]
      go_wp2_with fail
      go_meet
      unfold FS.begun
      rw [if_neg hia]
      exact H.out
  case rest =>
    obtain ⟨hF, hne⟩ := finv_begun HI.out hb
    have hd : f.begun.fin = f.fin := by unfold FS.begun; split <;> rfl
    rw [← hd] at hb
    have HG := Lib.hid (show f.push = { f.begun with s := f.begun.s.stepW.1, fin := if f.begun.s.stepW.2.1 = true ∧ f.begun.s.stepW.2.2 = 0 then f.begun.fin + 1 else f.begun.fin } from rfl)
    clear H HBU HI k0 hd
    generalize f.begun = g at *
    have H1 := Lib.hid hcut
    obtain ⟨-, hq⟩ := finv_stepW hF hne
    have HST := Lib.hid (ctx_stepW hcut.c)
    have k0 := hcut.k0
    clear hF hne hcut
    generalize g.s.stepW.1 = s2 at *
    generalize g.s.stepW.2.1 = d at *
    generalize g.s.stepW.2.2 = er at *
    go_wp2_with fail
    refine HST.out.mono ?_
    rintro e w2 ⟨rfl, hC, hK⟩
    have HW := Lib.hid (H1.out.kept hC hK)
    have k0 := HW.out.k0
    have k1 := HW.out.k1
    have k3 := HW.out.k3
    have k5 := HW.out.k5
    have f1 := HW.out.k.fr 1
    have f5 := HW.out.k.fr 5
    clear hC hK HST H1
    rcases hq with rfl | ⟨rfl, rfl, hfull⟩
    · cases d
      · have HW2 := Lib.hid (HW.out.set 5 (.bool true) (f' := { g with s := s2 }) rfl rfl)
        go_wp2_with fail
        go_end0
        exact ⟨rfl, HG.out ▸ HW2.out⟩
      · have HW1 := Lib.hid (HW.out.set 1 (.int .i64 ((g.fin + 1 : Nat) : Int)) (f' := { g with s := s2, fin := g.fin + 1 }) rfl rfl)
        have HW2 := Lib.hid (HW1.out.set 5 (.bool true) (f' := { g with s := s2, fin := g.fin + 1 }) rfl rfl)
        go_wp2_with fail
        go_end0
        exact ⟨rfl, HG.out ▸ HW2.out⟩
    · rw [show ({ g with s := s2 } : FS).full = g.full from rfl, hfull] at k3
      have HW2 := Lib.hid (HW.out.set 5 (.bool true) (f' := { g with s := s2 }) rfl rfl)
      go_wp2_with fail
      go_end0
      exact ⟨rfl, HG.out ▸ HW2.out⟩
end Go.Proofs.YtelfclcljdjohaaDoor
