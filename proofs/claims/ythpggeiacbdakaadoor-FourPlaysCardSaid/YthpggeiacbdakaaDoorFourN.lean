/- A register of four slots: a turn of the writer, in the laws. -/
import Derived.Test.YthpggeiacbdakaaDoorFourM
import Derived.Test.YthpggeiacbdakaaDoorFourAlone
import Derived.Deep.CutBlock
namespace Go.Proofs.YthpggeiacbdakaaDoor
open Go.RowKit

def wCells (b begun over low last : Nat) : Array Value := #[.pointer (some ⟨b, 0, none⟩), .int .i64 begun, .int .i64 over, .int .i64 low, .int .i64 last, .bool true]
def InvF (F : Prop) (s : FS) (begun over low last : Nat) : Prop := ∃ v vr, Inv s begun over low v vr ∧ (F → Fwd s last v vr)
structure WAt (F : Prop) (W w : World) (b mb lb x : Nat) (X : Nat → Prop) (s : FS) (begun over low last : Nat) : Prop where
  c : Ctx W w b mb lb X s
  k : Blk w x 28 (wCells b begun over low last)
  xx : X x
  hx : W.heap.size ≤ x
  inv : InvF F s begun over low last
section
variable {F : Prop} {W w w' : World} {b mb lb x : Nat} {X : Nat → Prop} {s s' : FS} {begun over low last begun' over' low' last' : Nat}
theorem WAt.below (h : WAt F W w b mb lb x X s begun over low last) (hb : Below w.heap.size w w') : WAt F W w' b mb lb x X s begun over low last :=
  ⟨h.c.below hb, h.k.below hb h.k.lt, h.xx, h.hx, h.inv⟩
theorem WAt.set (h : WAt F W w b mb lb x X s begun over low last) (i : Nat) (u : Value) (he : (wCells b begun over low last).setIfInBounds i u = wCells b begun' over' low' last') (hi : InvF F s begun' over' low' last') : WAt F W (w.setCell ⟨x, i, none⟩ u) b mb lb x X s begun' over' low' last' := by
  have hk := h.k.set i u
  rw [he] at hk
  exact ⟨h.c.onlX (S := fun k => k = x) (onl_set (S := fun k => k = x) (onl_refl _ w) (p := ⟨x, i, none⟩) (.inl rfl) u) (fun k e => by rw [e]; exact h.xx) (fun k e => by rw [e]; exact h.hx), hk, h.xx, h.hx, hi⟩
theorem WAt.turn (h : WAt F W w b mb lb x X s begun over low last) (hC : Ctx W w' b mb lb X s') (hK : Kept X w w') (hi : InvF F s' begun over low last) : WAt F W w' b mb lb x X s' begun over low last :=
  ⟨hC, h.k.of (hK x h.xx), h.xx, h.hx, hi⟩
theorem WAt.k0 (h : WAt F W w b mb lb x X s begun over low last) : w.cell? ⟨x, 0, none⟩ = some (.pointer (some ⟨b, 0, none⟩)) := (h.k.cell 0).trans rfl
theorem WAt.k1 (h : WAt F W w b mb lb x X s begun over low last) : w.cell? ⟨x, 1, none⟩ = some (.int .i64 begun) := (h.k.cell 1).trans rfl
theorem WAt.k2 (h : WAt F W w b mb lb x X s begun over low last) : w.cell? ⟨x, 2, none⟩ = some (.int .i64 over) := (h.k.cell 2).trans rfl
theorem WAt.k3 (h : WAt F W w b mb lb x X s begun over low last) : w.cell? ⟨x, 3, none⟩ = some (.int .i64 low) := (h.k.cell 3).trans rfl
theorem WAt.k4 (h : WAt F W w b mb lb x X s begun over low last) : w.cell? ⟨x, 4, none⟩ = some (.int .i64 last) := (h.k.cell 4).trans rfl
theorem WAt.k5 (h : WAt F W w b mb lb x X s begun over low last) : w.cell? ⟨x, 5, none⟩ = some (.bool true) := (h.k.cell 5).trans rfl
theorem invF_up (h : InvF F s begun over low last) (hiw : s.iw = 0) : InvF F s (begun + 1) over low last := by
  obtain ⟨v, vr, hi, hf⟩ := h
  exact ⟨v, vr, inv_up hi hiw, hf⟩
theorem invF_wrt (h : InvF F s begun over low last) : InvF F (s.wrt (List.replicate s.W (begun : Int))) begun over low last := by
  obtain ⟨v, vr, hi, hf⟩ := h
  exact ⟨v, vr, inv_wrt hi, fun e => fwd_wrt (hf e) _⟩
theorem invF_rd (h : InvF F s begun over low last) (how : s.ow = 0) : InvF F s.rd.1 begun over over last := by
  obtain ⟨v, vr, hi, hf⟩ := h
  exact ⟨v, vr, inv_rd hi how, fun e => fwd_rd (hf e) how⟩
theorem invF_W (h : InvF F s begun over low last) (hk : s.ok) (h0 : s.iw ≠ 0) : InvF F s.stepW.1 begun (if s.iw = 1 then begun else over) low last := by
  obtain ⟨v, vr, hi, hf⟩ := h
  exact ⟨_, _, inv_stepW hi hk h0, fun e => fwd_stepW (hf e) hi hk h0⟩
theorem invF_R (h : InvF F s begun over low last) (hk : s.ok) (h0 : s.ow ≠ 0) : InvF F s.stepR.1 begun over low last := by
  obtain ⟨v, vr, hi, hf⟩ := h
  exact ⟨_, _, inv_stepR hi hk h0, fun e => fwd_stepR (hf e) hi hk h0⟩
theorem invF_told (h : InvF F s begun over low last) (hk : s.ok) (h1 : s.ow = 1) : ∃ vo : Nat, s.accR.ol = List.replicate s.W (vo : Int) ∧ low ≤ vo ∧ vo ≤ begun ∧ (F → last ≤ vo) ∧ InvF F s.stepR.1 begun over low vo := by
  obtain ⟨v, vr, hi, hf⟩ := h
  obtain ⟨a1, a2, a3⟩ := inv_told hi hk h1
  exact ⟨_, a1, a2, a3, fun e => (fwd_told (hf e) hi hk h1).1, ⟨_, _, inv_stepR hi hk (by omega), fun e => (fwd_told (hf e) hi hk h1).2⟩⟩
end
/-- The law's own, beside the world's block, stays. -/
def KX (x : Nat) (X : Nat → Prop) (w w' : World) : Prop := Kept (fun k => X k ∧ k ≠ x) w w'
theorem kx_refl (x : Nat) (X : Nat → Prop) (w : World) : KX x X w w := fun _ _ => rfl
theorem KX.trans {x : Nat} {X : Nat → Prop} {a b c : World} (h : KX x X a b) (k : KX x X b c) : KX x X a c := fun j e => (k j e).trans (h j e)
theorem KX.kept {x : Nat} {X : Nat → Prop} {a b c : World} (h : KX x X a b) (k : Kept X b c) : KX x X a c := fun j e => (k j e.1).trans (h j e)
theorem KX.set {x : Nat} {X : Nat → Prop} {a b : World} (h : KX x X a b) (i : Nat) (u : Value) : KX x X a (b.setCell ⟨x, i, none⟩ u) := fun j e => (Below.heap_setCell _ _ _ _ (fun f => e.2 f)).trans (h j e)
theorem KX.below {x : Nat} {X : Nat → Prop} {a b c : World} (h : KX x X a b) (hb : Below b.heap.size b c) (hl : ∀ k, X k → k < b.heap.size) : KX x X a c := fun j e => (hb.block j (hl j e.1)).trans (h j e)
/-- What an access of the writer makes of a register, a write begun ahead of it. -/
def PreW (s s1 : FS) : Prop := s1 = s ∧ s.iw ≠ 0 ∨ ∃ l, s1 = s.wrt l
def FromW (s s' : FS) : Prop := ∃ s1, PreW s s1 ∧ s' = s1.stepW.1
def PreR (s s1 : FS) : Prop := s1 = s ∧ s.ow ≠ 0 ∨ s.ow = 0 ∧ s1 = s.rd.1
def FromR (s s' : FS) : Prop := ∃ s1, PreR s s1 ∧ s' = s1.stepR.1
set_option maxRecDepth 100000 in
set_option maxHeartbeats 3200000 in
theorem turn_w {F : Prop} {W w : World} {b mb lb x : Nat} {X : Nat → Prop} {s : FS} {begun over low last : Nat} (h : WAt F W w b mb lb x X s begun over low last) (hbg : begun ≤ 1000) :
    Calls Tryd.prog 12 #[.pointer (some ⟨x, 0, none⟩), .bool true] w fun e w' => e = .returned (.tuple #[.int .i64 0, .bool false]) ∧ ∃ s' begun' over', begun' ≤ begun + 1 ∧ WAt F W w' b mb lb x X s' begun' over' low last ∧ s'.W = s.W ∧ FromW s s' ∧ KX x X w w' := by
  have H := Lib.hid h
  have k0 := h.k0
  clear h
  go_enter Tryd.func12, Tryd.ntmps12
  go_wp2_with fail
  refine (ctx_words H.out.c).mono ?_
  rintro e w1 ⟨rfl, rfl⟩
  go_wp2_with fail
  refine (ctx_left H.out.c true).mono ?_
  rintro e w1 ⟨rfl, rfl⟩
  rw [show s.left true = s.iw from rfl]
  have hn1 := H.out.c.ok.w1
  have hn6 := H.out.c.ok.w6
  go_upto_if 27 with (fail)
  go_cut [7, 8] (fun _ _ wx => ∃ s1 begun1, begun1 ≤ begun + 1 ∧ WAt F W wx b mb lb x X s1 begun1 over low last ∧ s1.iw ≠ 0 ∧ s1.W = s.W ∧ PreW s s1 ∧ KX x X w wx)
  case first =>
    by_cases hiw : s.iw = 0
    · have bz : ((s.iw : Int) == 0) = true := by simp [hiw]
      have k1 := H.out.k1
      have f1 := H.out.k.fr 1
      have HW := Lib.hid (show WAt F W (w.setCell ⟨x, 1, none⟩ (.int .i64 ((begun : Int) + 1))) b mb lb x X s (begun + 1) over low last from H.out.set 1 (.int .i64 ((begun : Int) + 1)) rfl (invF_up H.out.inv hiw))
      have HKM := Lib.hid ((kx_refl x X w).set 1 (.int .i64 ((begun : Int) + 1)))
      generalize hne : s.W = n at *
      have hmk := fun W => run_make_row' (P := Tryd.prog) 42 3 (.int .i64 0) 8 Tryd.underlying42 infoInt rfl .i64 .i64 n (by omega) (by omega) W
      go_wp2_with fail
      have hwz : (w.setCell ⟨x, 1, none⟩ (.int .i64 ((begun : Int) + 1))).heap.size = w.heap.size := by simp
      rw [← hwz]
      generalize w.setCell ⟨x, 1, none⟩ (.int .i64 ((begun : Int) + 1)) = wm at *
      clear k0 k1 f1 hwz
      have eV := Lib.hid (show ((begun : Int) + 1) = ((begun + 1 : Nat) : Int) by omega)
      go_loopw [8] (fun i wx => ∃ k : Nat, k ≤ n ∧ i = .int .i64 k ∧ Blk wx wm.heap.size 3 (nums (fill n k ((begun + 1 : Nat) : Int) 0)).toArray ∧ Only (fun j => j = wm.heap.size) (wm.alloc (.cells (madeCells #[.int .i64 0] n) 3)) wx) (fun i _ => n - (intOf i).toNat)
      case atStart => exact ⟨0, Nat.zero_le _, rfl, by have := Blk.new wm 3 (madeCells #[.int .i64 0] n); rw [nums_zeros] at this ⊢; simpa [fill] using this, onl_refl _ _⟩
      case round =>
        obtain ⟨k, hk, rfl, hB, hO⟩ := hrel
        have hBB : Below wm.heap.size wm wr := below_onl (below_alloc (Nat.le_refl _) (.cells (madeCells #[.int .i64 0] n) 3)) hO (by simp) (fun k e => by omega)
        have HWr := Lib.hid (HW.out.below hBB)
        have k1 := HWr.out.k1
        by_cases hlt : k < n
        · have ck : wr.cell? ⟨wm.heap.size, k, none⟩ = some (.int .i64 0) := by
            rw [hB.cell k, List.getElem?_toArray, nums_get _ _ (by rw [fill_len _ _ _ _ hk]; exact hlt)]
            simp [fill]
          have fk := hB.fr k
          have hBn := hB.set k (.int .i64 ((begun + 1 : Nat) : Int))
          rw [nums_set, fill_set _ _ _ _ hlt] at hBn
          have HBN := Lib.hid hBn
          have HON := Lib.hid (onl_set (S := fun j => j = wm.heap.size) hO (p := ⟨wm.heap.size, k, none⟩) (.inl rfl) (.int .i64 ((begun + 1 : Nat) : Int)))
          have b1 : (k : Int) < (n : Int) := by omega
          have b0 : (0 : Int) ≤ (k : Int) := by omega
          clear hB hO hBB hBn
          go_wp2
          go_round
          case rel => exact ⟨k + 1, by omega, by go_num, HBN.out, HON.out⟩
          case measure => simp [intOf]; omega
        · obtain rfl : k = n := by omega
          have hI := ints_blk hB (fill_len _ _ _ _ hk)
          rw [show fill k k ((begun + 1 : Nat) : Int) 0 = List.replicate s.W ((begun + 1 : Nat) : Int) by simp [fill, hne]] at hI
          have k0 := HWr.out.k0
          have k5 := HWr.out.k5
          have hall : allOk (List.replicate s.W ((begun + 1 : Nat) : Int)) := fun v hv => by have := (List.mem_replicate.1 hv).2; subst this; unfold okWord; omega
          have hwr : s.wr (List.replicate s.W ((begun + 1 : Nat) : Int)) = (s.wrt (List.replicate s.W ((begun + 1 : Nat) : Int)), 0) := by
            unfold FS.wr
            rw [if_pos ⟨by simp, hall⟩, if_pos hiw]
          have hc := ctx_wr HWr.out.c hI (by simp; omega)
          rw [hwr] at hc
          have HC := Lib.hid hc
          have b1 : ¬ (k : Int) < (k : Int) := by omega
          have HBB := Lib.hid hBB
          clear hB hO hBB hI k1 hlt hc hwr hall
          go_wp2_with fail
          refine HC.out.mono ?_
          rintro e w3 ⟨rfl, hC3, hK3⟩
          have HW3 := Lib.hid (HWr.out.turn hC3 hK3 (invF_wrt HWr.out.inv))
          have HK3 := Lib.hid (((HKM.out.below HBB.out HW.out.c.lt).kept hK3).set 5 (.bool true))
          clear hC3 hK3 HC k0 k5
          have k5 : w3.cell? ⟨x, 5, none⟩ = some (.bool true) := HW3.out.k5
          have f5 : w3.frozen? ⟨x, 5, none⟩ = false := HW3.out.k.fr 5
          have HW4 := Lib.hid (HW3.out.set 5 (.bool true) (begun' := begun + 1) (over' := over) (low' := low) (last' := last) rfl HW3.out.inv)
          go_wp2_with fail
          go_meet
          exact ⟨_, begun + 1, Nat.le_refl _, HW4.out, by simp [FS.wrt], hne, .inr ⟨_, rfl⟩, HK3.out⟩
    · have bz : ((s.iw : Int) == 0) = false := by simp [hiw]
      go_wp2_with fail
      go_meet
      exact ⟨s, begun, by omega, H.out, hiw, rfl, .inl ⟨rfl, hiw⟩, kx_refl _ _ _⟩
  case rest =>
    obtain ⟨s1, begun1, hb1, hW1, hne1, hw1, hpre, hkx⟩ := hcut
    have HPRE := Lib.hid (show FromW s s1.stepW.1 from ⟨s1, hpre, rfl⟩)
    have HKX := Lib.hid hkx
    clear hpre hkx
    have hst := ctx_stepW hW1.c
    have hI := invF_W hW1.inv hW1.c.ok hne1
    have hsw : s1.stepW.1.W = s1.W ∧ s1.stepW.2.2 = (decide (s1.iw = 1), 0) := by
      unfold FS.stepW
      rw [if_neg hne1]
      exact ⟨(accW_same s1).1, rfl⟩
    rw [hsw.2] at hst
    have HST := Lib.hid hst
    have HX := Lib.hid (hsw.1.trans hw1)
    have HF := Lib.hid hI
    have H1 := Lib.hid hW1
    have k0 := hW1.k0
    clear hst hI hsw hW1
    generalize s1.stepW.1 = s2 at *
    go_wp2_with fail
    refine HST.out.mono ?_
    rintro e w2 ⟨rfl, hC, hK⟩
    have hk2 := H1.out.k.of (hK x H1.out.xx)
    have HK2 := Lib.hid (HKX.out.kept hK)
    have c1 : w2.cell? ⟨x, 1, none⟩ = some (.int .i64 begun1) := (hk2.cell 1).trans rfl
    have c2 : w2.cell? ⟨x, 2, none⟩ = some (.int .i64 over) := (hk2.cell 2).trans rfl
    have c5 : w2.cell? ⟨x, 5, none⟩ = some (.bool true) := (hk2.cell 5).trans rfl
    have f2 := hk2.fr 2
    have f5 := hk2.fr 5
    have hset : ∀ {w3 : World} {s3 : FS} (_ : Ctx W w3 b mb lb X s3) (i : Nat) (u : Value), Ctx W (w3.setCell ⟨x, i, none⟩ u) b mb lb X s3 := fun hc i u => hc.onlX (S := fun k => k = x) (onl_set (S := fun k => k = x) (onl_refl _ _) (p := ⟨x, i, none⟩) (.inl rfl) u) (fun k e => by rw [e]; exact H1.out.xx) (fun k e => by rw [e]; exact H1.out.hx)
    have HB1 := Lib.hid hb1
    by_cases hd : s1.iw = 1
    · have hI2 := HF.out
      rw [if_pos hd] at hI2
      have HW := Lib.hid (show WAt F W ((w2.setCell ⟨x, 2, none⟩ (.int .i64 begun1)).setCell ⟨x, 5, none⟩ (.bool true)) b mb lb x X s2 begun1 begun1 low last from ⟨hset (hset hC 2 _) 5 _, (hk2.set 2 (.int .i64 begun1)).set 5 (.bool true), H1.out.xx, H1.out.hx, hI2⟩)
      have hdd : decide (s1.iw = 1) = true := by simp [hd]
      clear hC hK hk2 HST H1 k0 hb1 hset hI2 HF hd
      go_wp2_with fail
      go_ret2
      exact ⟨by simp, s2, begun1, begun1, HB1.out, HW.out, HX.out, HPRE.out, (HK2.out.set 2 (.int .i64 begun1)).set 5 (.bool true)⟩
    · have hI2 := HF.out
      rw [if_neg hd] at hI2
      have HW := Lib.hid (show WAt F W (w2.setCell ⟨x, 5, none⟩ (.bool true)) b mb lb x X s2 begun1 over low last from ⟨hset hC 5 _, hk2.set 5 (.bool true), H1.out.xx, H1.out.hx, hI2⟩)
      have hdd : decide (s1.iw = 1) = false := by simp [hd]
      clear hC hK hk2 HST H1 k0 hb1 hset hI2 HF hd
      go_wp2_with fail
      go_ret2
      exact ⟨by simp, s2, begun1, over, HB1.out, HW.out, HX.out, HPRE.out, HK2.out.set 5 (.bool true)⟩
end Go.Proofs.YthpggeiacbdakaaDoor
