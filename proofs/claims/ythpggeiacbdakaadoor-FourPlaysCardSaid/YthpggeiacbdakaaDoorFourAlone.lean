/- FourAlone: a write, and a read, take so many accesses, whatever the other one does meanwhile: the walk. -/
import Derived.Test.YthpggeiacbdakaaDoorFourOdd
import Derived.StillTailTactics
namespace Go.Proofs.YthpggeiacbdakaaDoor
open Go.RowKit

def aCells (m0 m1 : Nat) : Array Value := #[.int .i64 m0, .int .i64 m1]
/-- The register, and the law's own counts at x. -/
structure AAt (W w : World) (b mb lb x : Nat) (X : Nat → Prop) (s : FS) (m0 m1 : Nat) : Prop where
  c : Ctx W w b mb lb X s
  k : Blk w x 38 (aCells m0 m1)
  xx : X x
  hx : W.heap.size ≤ x
  i0 : s.ow = 0 ∨ m0 + s.ow = s.W + 3
  i1 : s.iw = 0 ∨ m1 + s.iw = s.W + 4
section
variable {W w w' : World} {b mb lb x : Nat} {X : Nat → Prop} {s s' : FS} {m0 m1 m0' m1' : Nat}
theorem AAt.set (h : AAt W w b mb lb x X s m0 m1) (i : Nat) (u : Value) (he : (aCells m0 m1).setIfInBounds i u = aCells m0' m1') (h0 : s.ow = 0 ∨ m0' + s.ow = s.W + 3) (h1 : s.iw = 0 ∨ m1' + s.iw = s.W + 4) : AAt W (w.setCell ⟨x, i, none⟩ u) b mb lb x X s m0' m1' := by
  have hk := h.k.set i u
  rw [he] at hk
  exact ⟨h.c.onlX (S := fun k => k = x) (onl_set (S := fun k => k = x) (onl_refl _ w) (p := ⟨x, i, none⟩) (.inl rfl) u) (fun k e => by rw [e]; exact h.xx) (fun k e => by rw [e]; exact h.hx), hk, h.xx, h.hx, h0, h1⟩
theorem AAt.turn (h : AAt W w b mb lb x X s m0 m1) (hC : Ctx W w' b mb lb X s') (hK : Kept X w w') (h0 : s'.ow = 0 ∨ m0 + s'.ow = s'.W + 3) (h1 : s'.iw = 0 ∨ m1 + s'.iw = s'.W + 4) : AAt W w' b mb lb x X s' m0 m1 :=
  ⟨hC, h.k.of (hK x h.xx), h.xx, h.hx, h0, h1⟩
theorem AAt.below (h : AAt W w b mb lb x X s m0 m1) (hb : Below w.heap.size w w') : AAt W w' b mb lb x X s m0 m1 :=
  ⟨h.c.below hb, h.k.below hb h.k.lt, h.xx, h.hx, h.i0, h.i1⟩
end
theorem accW_same (s : FS) : s.accW.W = s.W ∧ s.accW.ow = s.ow := by unfold FS.accW; repeat (first | exact ⟨rfl, rfl⟩ | split)
theorem accR_same (s : FS) : s.accR.W = s.W ∧ s.accR.iw = s.iw := by unfold FS.accR; repeat (first | exact ⟨rfl, rfl⟩ | split)
set_option maxRecDepth 100000 in
set_option maxHeartbeats 6400000 in
theorem fourAlone_law (n0 : Int) (A : Option Addr) (len cap bs off : Nat) (P : Nat → Bool) (w : World) (hS : BoolsIn w A len bs off P) (_ : len ≤ cap) (_ : cap ≤ maxLen) :
    Calls Tryd.prog 5 #[.int .i64 n0, .slice A len cap] w fun e w' => e = .returned (.bool true) ∧ Below w.heap.size w w' := by
  go_enter Tryd.func5, Tryd.ntmps5
  go_wp2_with fail
  refine (lives_any w).mono ?_
  rintro e w1 ⟨rfl, hB1⟩
  go_wp2_with fail
  refine (ctx_new n0 hB1).mono ?_
  rintro e w2 ⟨b, mb, lb, rfl, hB2, hC⟩
  have HC := Lib.hid hC
  have HS := Lib.hid hS
  clear hC hS hB1 hB2
  go_wp2_with fail
  refine (ctx_words HC.out).mono ?_
  rintro e w3 ⟨rfl, rfl⟩
  have hwn := wordsOf_bd n0
  have HA := Lib.hid (show AAt w (w2.alloc (.cells (aCells 0 0) 38)) b mb lb w2.heap.size (newX (fun _ => False) w2 (w2.alloc (.cells (aCells 0 0) 38))) (FS.new (wordsOf n0)) 0 0 from
    ⟨HC.out.grow (below_alloc (Nat.le_refl _) _), Blk.new w2 38 (aCells 0 0), .inr ⟨Nat.le_refl _, by simp⟩, HC.out.bel.size, .inl rfl, .inl rfl⟩)
  have HW := Lib.hid (show (FS.new (wordsOf n0)).W = wordsOf n0 from rfl)
  clear HC
  rw [show (FS.new (wordsOf n0)).W = wordsOf n0 from rfl]
  generalize wordsOf n0 = n at *
  obtain ⟨hn1, hn6⟩ := hwn
  go_wp2
  change Code.wp _ _ _ _ (w2.alloc (.cells (aCells 0 0) 38))
  generalize newX (fun _ => False) w2 (w2.alloc (.cells (aCells 0 0) 38)) = X at *
  generalize FS.new n = t0 at *
  generalize w2.alloc (.cells (aCells 0 0) 38) = wL at *
  generalize w2.heap.size = x at *
  go_loopw [8] (fun i wr => ∃ (k : Nat) (s : FS) (m0 m1 : Nat), k ≤ len ∧ k ≤ 200 ∧ i = .int .i64 k ∧ AAt w wr b mb lb x X s m0 m1 ∧ s.W = n) (fun i _ => len - (intOf i).toNat)
  case atStart => exact ⟨0, t0, 0, 0, Nat.zero_le _, by omega, rfl, HA.out, HW.out⟩
  case round =>
    clear HA HW
    obtain ⟨k, s, m0, m1, hk, hk3, rfl, hA, hWn⟩ := hrel
    have HA := Lib.hid hA
    have HWN := Lib.hid hWn
    clear hA hWn
    by_cases hlt : k < len ∧ k < 200
    · obtain ⟨hlt, hlt3⟩ := hlt
      obtain rfl : A = some ⟨bs, off, none⟩ := HS.out.at_.resolve_right (by omega)
      have b1 : (k : Int) < (len : Int) := by omega
      have b2 : (k : Int) < 200 := by omega
      have b0 : (0 : Int) ≤ (k : Int) := by omega
      have s0 := (HS.out.below HA.out.c.bel).c0 k hlt
      cases hp : P k
      · rw [hp] at s0
        go_wp2_with fail
        refine (ctx_left HA.out.c false).mono ?_
        rintro e w4 ⟨rfl, rfl⟩
        rw [show s.left false = s.ow from rfl]
        go_upto_if 46 with (fail)
        go_cut [] (fun wx => ∃ (s1 : FS) (m0 m1 : Nat), AAt w wx b mb lb x X s1 m0 m1 ∧ s1.ow ≠ 0 ∧ s1.W = n)
        case first =>
          by_cases hz : s.ow = 0
          · have bz : ((s.ow : Int) == 0) = true := by simp [hz]
            have kk : wr.cell? ⟨x, 0, none⟩ = some (.int .i64 (m0 : Int)) := (HA.out.k.cell 0).trans rfl
            have ff := HA.out.k.fr 0
            have HA1 := Lib.hid (HA.out.set 0 (.int .i64 0) (m0' := 0) (m1' := m1) rfl (.inl hz) HA.out.i1)
            have s0' : (wr.setCell ⟨x, 0, none⟩ (.int .i64 0)).cell? ⟨bs, off + k, none⟩ = some (.bool false) := by
              have := (HS.out.below HA1.out.c.bel).c0 k hlt
              rw [hp] at this
              exact this
            go_wp2_with fail
            generalize wr.setCell ⟨x, 0, none⟩ (.int .i64 0) = wm at *
            refine (ctx_rd HA1.out.c).mono ?_
            have hrd : s.rd = ({ s with ow := s.W + 3, ol := [] }, 0) := by unfold FS.rd; rw [if_pos hz]
            rw [hrd]
            rintro e w5 ⟨rfl, hC5, hK5⟩
            have HA5 := Lib.hid (HA1.out.turn hC5 hK5 (.inr (Nat.zero_add _)) HA1.out.i1)
            clear hC5 hK5 hrd
            go_wp2_with fail
            go_meet
            exact ⟨_, _, _, HA5.out, by simp, HWN.out⟩
          · have bz : ((s.ow : Int) == 0) = false := by simp [hz]
            go_wp2_with fail
            go_meet
            exact ⟨s, m0, m1, HA.out, hz, HWN.out⟩
        case rest =>
          obtain ⟨s1, m0, m1, hA1, hne, hw1⟩ := hcut
          have hinv := hA1.i0.resolve_left hne
          rw [hw1] at hinv
          have hst := ctx_stepR hA1.c
          have e1 : s1.stepR = ({ s1.accR with ow := s1.ow - 1 }, if s1.ow = 1 then s1.accR.ol else [], decide (s1.ow = 1), 0) := by unfold FS.stepR; rw [if_neg hne]
          have HS1 := Lib.hid (show s1.stepR.1.ow = s1.ow - 1 ∧ s1.stepR.1.W = n ∧ s1.stepR.1.iw = s1.iw from by rw [e1]; exact ⟨rfl, (accR_same s1).1.trans hw1, (accR_same s1).2⟩)
          rw [show s1.stepR.2.2.1 = decide (s1.ow = 1) by rw [e1], show s1.stepR.2.2.2 = 0 by rw [e1]] at hst
          have HST := Lib.hid hst
          have HA1 := Lib.hid hA1
          have s0 := (HS.out.below hA1.c.bel).c0 k hlt
          rw [hp] at s0
          have hq : decide (s1.ow = 1) = (((m0 : Int) + 1) == ((n : Int) + 3 + 0)) := by
            by_cases e : s1.ow = 1
            · simp [e]; omega
            · simp [e]; omega
          have hql : ((s1.ow - 1 : Nat) : Int) = (n : Int) + 3 + 0 - ((m0 : Int) + 1) := by omega
          have hm10 : m0 ≤ 10 := by omega
          have HQ := Lib.hid hinv
          have HW1 := Lib.hid hw1
          clear hst hA1 hw1 hinv e1 HA
          generalize s1.stepR.1 = s2 at *
          go_wp2_with fail
          refine HST.out.mono ?_
          rintro e w5 ⟨v5, rfl, ⟨hC, hKp⟩, hi5, -⟩
          obtain ⟨A5, c5, rfl⟩ := hi5.form
          clear hi5
          have hA5 : AAt w w5 b mb lb x X s2 m0 m1 ∨ True := .inr trivial
          have hC6 := hC.onlX (S := fun k => k = x) (onl_set (S := fun k => k = x) (onl_refl _ w5) (p := ⟨x, 0, none⟩) (.inl rfl) (.int .i64 ((m0 : Int) + 1))) (fun k e => by rw [e]; exact HA1.out.xx) (fun k e => by rw [e]; exact HA1.out.hx)
          have hkb : Blk w5 x 38 (aCells m0 m1) := HA1.out.k.of (hKp x HA1.out.xx)
          have kk : w5.cell? ⟨x, 0, none⟩ = some (.int .i64 (m0 : Int)) := (hkb.cell 0).trans rfl
          have ff := hkb.fr 0
          have hkb6 := hkb.set 0 (.int .i64 ((m0 : Int) + 1))
          rw [show (aCells m0 m1).setIfInBounds 0 (.int .i64 ((m0 : Int) + 1)) = aCells (m0 + 1) m1 by simp [aCells]] at hkb6
          have hA6 : AAt w (w5.setCell ⟨x, 0, none⟩ (.int .i64 ((m0 : Int) + 1))) b mb lb x X s2 (m0 + 1) m1 := ⟨hC6, hkb6, HA1.out.xx, HA1.out.hx, show s2.ow = 0 ∨ _ from by rw [HS1.out.1, HS1.out.2.1]; have := HQ.out; omega, show s2.iw = 0 ∨ _ from by rw [HS1.out.2.2, HS1.out.2.1]; have := HA1.out.i1; rw [show s1.W = n from HW1.out] at this; exact this⟩
          have HA6 := Lib.hid hA6
          have j1 : (w5.setCell ⟨x, 0, none⟩ (.int .i64 ((m0 : Int) + 1))).cell? ⟨x, 0, none⟩ = some (.int .i64 ((m0 : Int) + 1)) := World.cell?_setCell_same _ _ _ kk
          have s6 := (HS.out.below hA6.c.bel).c0 k hlt
          rw [hp] at s6
          have HLQ := Lib.hid (show ∀ q, Calls Tryd.prog 14 #[.pointer (some ⟨b, 0, none⟩), .bool false] ((w5.setCell ⟨x, 0, none⟩ (.int .i64 ((m0 : Int) + 1))).drewN q) fun e w' => e = .returned (.int .i64 ((n : Int) + 3 + 0 - ((m0 : Int) + 1))) ∧ w' = (w5.setCell ⟨x, 0, none⟩ (.int .i64 ((m0 : Int) + 1))).drewN q from fun q => by
            have := ctx_left (HA6.out.c.below (below_drewN' _ q)) false
            rw [show s2.left false = s1.ow - 1 from HS1.out.1, hql] at this
            exact this.mono fun _ _ ⟨he, hw⟩ => ⟨he, hw.symm⟩)
          have hfin : AAt w (w5.setCell ⟨x, 0, none⟩ (.int .i64 ((m0 : Int) + 1))) b mb lb x X s2 (m0 + 1) m1 := hA6
          have HFIN := Lib.hid (And.intro hfin HS1.out.2.1)
          clear hC hKp hA5 hA6 hC6 hkb hkb6 HST HA1 s0 hql hfin HA6 HS1 HQ HW1 hne
          generalize decide (s1.ow = 1) = dd at *
          go_wp2_with fail
          go_quiet (first | (go_at_call 14; exact Calls.quiet_of_same (HLQ.out _)))
          go_wp2
          go_roundw
          case rel => exact ⟨k + 1, s2, (m0 + 1), m1, by omega, by omega, by go_num, HFIN.out.1.below (below_drewN' _ _), HFIN.out.2⟩
          case measure => simp [intOf]; omega
      · rw [hp] at s0
        go_wp2_with fail
        refine (ctx_left HA.out.c true).mono ?_
        rintro e w4 ⟨rfl, rfl⟩
        rw [show s.left true = s.iw from rfl]
        go_upto_if 46 with (fail)
        go_cut [] (fun wx => ∃ (s1 : FS) (m0 m1 : Nat), AAt w wx b mb lb x X s1 m0 m1 ∧ s1.iw ≠ 0 ∧ s1.W = n)
        case first =>
          by_cases hz : s.iw = 0
          · have bz : ((s.iw : Int) == 0) = true := by simp [hz]
            have kk : wr.cell? ⟨x, 1, none⟩ = some (.int .i64 (m1 : Int)) := (HA.out.k.cell 1).trans rfl
            have ff := HA.out.k.fr 1
            have HA1 := Lib.hid (HA.out.set 1 (.int .i64 0) (m0' := m0) (m1' := 0) rfl HA.out.i0 (.inl hz))
            have s0' : (wr.setCell ⟨x, 1, none⟩ (.int .i64 0)).cell? ⟨bs, off + k, none⟩ = some (.bool true) := by
              have := (HS.out.below HA1.out.c.bel).c0 k hlt
              rw [hp] at this
              exact this
            have hmk := fun W => run_make_row' (P := Tryd.prog) 42 3 (.int .i64 0) 8 Tryd.underlying42 infoInt rfl .i64 .i64 n (by omega) (by omega) W
            go_wp2_with fail
            have hwz : (wr.setCell ⟨x, 1, none⟩ (.int .i64 0)).heap.size = wr.heap.size := by simp
            rw [← hwz]
            generalize wr.setCell ⟨x, 1, none⟩ (.int .i64 0) = wm at *
            have hall : allOk (List.replicate n 0) := fun v hv => by have := (List.mem_replicate.1 hv).2; subst this; unfold okWord; omega
            refine (ctx_wr (HA1.out.below (below_alloc (Nat.le_refl _) _)).c (ints_made wm n) (by simp; omega)).mono ?_
            have hwr : s.wr (List.replicate n 0) = (s.wrt (List.replicate n 0), 0) := by
              unfold FS.wr
              rw [if_pos ⟨by rw [HWN.out]; simp, hall⟩, if_pos hz]
            rw [hwr]
            rintro e w5 ⟨rfl, hC5, hK5⟩
            have HA5 := Lib.hid ((HA1.out.below (below_alloc (Nat.le_refl _) (.cells (madeCells #[.int .i64 0] n) 3))).turn hC5 hK5 HA1.out.i0 (.inr (Nat.zero_add _)))
            clear hC5 hK5 hwr hall
            go_wp2_with fail
            go_meet
            exact ⟨_, _, _, HA5.out, by simp [FS.wrt], HWN.out⟩
          · have bz : ((s.iw : Int) == 0) = false := by simp [hz]
            go_wp2_with fail
            go_meet
            exact ⟨s, m0, m1, HA.out, hz, HWN.out⟩
        case rest =>
          obtain ⟨s1, m0, m1, hA1, hne, hw1⟩ := hcut
          have hinv := hA1.i1.resolve_left hne
          rw [hw1] at hinv
          have hst := ctx_stepW hA1.c
          have e1 : s1.stepW = ({ s1.accW with iw := s1.iw - 1 }, [], decide (s1.iw = 1), 0) := by unfold FS.stepW; rw [if_neg hne]
          have HS1 := Lib.hid (show s1.stepW.1.iw = s1.iw - 1 ∧ s1.stepW.1.W = n ∧ s1.stepW.1.ow = s1.ow from by rw [e1]; exact ⟨rfl, (accW_same s1).1.trans hw1, (accW_same s1).2⟩)
          rw [show s1.stepW.2.2.1 = decide (s1.iw = 1) by rw [e1], show s1.stepW.2.2.2 = 0 by rw [e1]] at hst
          have HST := Lib.hid hst
          have HA1 := Lib.hid hA1
          have s0 := (HS.out.below hA1.c.bel).c0 k hlt
          rw [hp] at s0
          have hq : decide (s1.iw = 1) = (((m1 : Int) + 1) == ((n : Int) + 3 + 1)) := by
            by_cases e : s1.iw = 1
            · simp [e]; omega
            · simp [e]; omega
          have hql : ((s1.iw - 1 : Nat) : Int) = (n : Int) + 3 + 1 - ((m1 : Int) + 1) := by omega
          have hm10 : m1 ≤ 10 := by omega
          have HQ := Lib.hid hinv
          have HW1 := Lib.hid hw1
          clear hst hA1 hw1 hinv e1 HA
          generalize s1.stepW.1 = s2 at *
          go_wp2_with fail
          refine HST.out.mono ?_
          rintro e w5 ⟨rfl, hC, hKp⟩
          have hA5 : AAt w w5 b mb lb x X s2 m0 m1 ∨ True := .inr trivial
          have hC6 := hC.onlX (S := fun k => k = x) (onl_set (S := fun k => k = x) (onl_refl _ w5) (p := ⟨x, 1, none⟩) (.inl rfl) (.int .i64 ((m1 : Int) + 1))) (fun k e => by rw [e]; exact HA1.out.xx) (fun k e => by rw [e]; exact HA1.out.hx)
          have hkb : Blk w5 x 38 (aCells m0 m1) := HA1.out.k.of (hKp x HA1.out.xx)
          have kk : w5.cell? ⟨x, 1, none⟩ = some (.int .i64 (m1 : Int)) := (hkb.cell 1).trans rfl
          have ff := hkb.fr 1
          have hkb6 := hkb.set 1 (.int .i64 ((m1 : Int) + 1))
          rw [show (aCells m0 m1).setIfInBounds 1 (.int .i64 ((m1 : Int) + 1)) = aCells m0 (m1 + 1) by simp [aCells]] at hkb6
          have hA6 : AAt w (w5.setCell ⟨x, 1, none⟩ (.int .i64 ((m1 : Int) + 1))) b mb lb x X s2 m0 (m1 + 1) := ⟨hC6, hkb6, HA1.out.xx, HA1.out.hx, show s2.ow = 0 ∨ _ from by rw [HS1.out.2.2, HS1.out.2.1]; have := HA1.out.i0; rw [show s1.W = n from HW1.out] at this; exact this, show s2.iw = 0 ∨ _ from by rw [HS1.out.1, HS1.out.2.1]; have := HQ.out; omega⟩
          have HA6 := Lib.hid hA6
          have j1 : (w5.setCell ⟨x, 1, none⟩ (.int .i64 ((m1 : Int) + 1))).cell? ⟨x, 1, none⟩ = some (.int .i64 ((m1 : Int) + 1)) := World.cell?_setCell_same _ _ _ kk
          have s6 := (HS.out.below hA6.c.bel).c0 k hlt
          rw [hp] at s6
          have HLQ := Lib.hid (show ∀ q, Calls Tryd.prog 14 #[.pointer (some ⟨b, 0, none⟩), .bool true] ((w5.setCell ⟨x, 1, none⟩ (.int .i64 ((m1 : Int) + 1))).drewN q) fun e w' => e = .returned (.int .i64 ((n : Int) + 3 + 1 - ((m1 : Int) + 1))) ∧ w' = (w5.setCell ⟨x, 1, none⟩ (.int .i64 ((m1 : Int) + 1))).drewN q from fun q => by
            have := ctx_left (HA6.out.c.below (below_drewN' _ q)) true
            rw [show s2.left true = s1.iw - 1 from HS1.out.1, hql] at this
            exact this.mono fun _ _ ⟨he, hw⟩ => ⟨he, hw.symm⟩)
          have hfin : AAt w (w5.setCell ⟨x, 1, none⟩ (.int .i64 ((m1 : Int) + 1))) b mb lb x X s2 m0 (m1 + 1) := hA6
          have HFIN := Lib.hid (And.intro hfin HS1.out.2.1)
          clear hC hKp hA5 hA6 hC6 hkb hkb6 HST HA1 s0 hql hfin HA6 HS1 HQ HW1 hne
          generalize decide (s1.iw = 1) = dd at *
          go_wp2_with fail
          go_quiet (first | (go_at_call 14; exact Calls.quiet_of_same (HLQ.out _)))
          go_wp2
          go_roundw
          case rel => exact ⟨k + 1, s2, m0, (m1 + 1), by omega, by omega, by go_num, HFIN.out.1.below (below_drewN' _ _), HFIN.out.2⟩
          case measure => simp [intOf]; omega
    · have hB := Lib.hid HA.out.c.bel
      have hlt' : ¬ (k < len ∧ k < 200) := hlt
      by_cases h1 : k < len
      · have b1 : (k : Int) < (len : Int) := by omega
        have b2 : ¬ (k : Int) < 200 := by omega
        clear HA
        go_wp2
        go_ret
        exact ⟨rfl, hB.out⟩
      · have b1 : ¬ (k : Int) < (len : Int) := by omega
        clear HA
        go_wp2
        go_ret
        exact ⟨rfl, hB.out⟩
end Go.Proofs.YthpggeiacbdakaaDoor
