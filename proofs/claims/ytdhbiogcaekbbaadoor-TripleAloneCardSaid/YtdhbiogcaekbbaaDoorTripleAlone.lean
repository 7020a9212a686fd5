/- TripleAlone: how many accesses: the plain law. -/
import Derived.Test.YtdhbiogcaekbbaaDoorTripleThree
import Derived.Test.YtdhbiogcaekbbaaDoorOpens
namespace Go.Proofs.YtdhbiogcaekbbaaDoor
open Go.RowKit

/-- m1 accesses of the write that is under way, m0 of the read. -/
structure MInv (s : TS) (m0 m1 : Nat) : Prop where
  a : s.ia = 3 → m1 = s.inn
  b : s.oa = 1 → m0 = 0
  c : s.oa = 2 → m0 = 1
  d : s.oa = 3 → m0 = s.ol.length + 1 ∨ m0 = s.ol.length + 2
  e : m0 ≤ 8
  f : m1 ≤ 8
section
variable {s : TS} {m0 m1 : Nat}
theorem minv_wrt (h : MInv s m0 m1) (l : List Int) : MInv (s.wrt l) m0 0 := ⟨fun _ => rfl, h.b, h.c, h.d, h.e, Nat.zero_le _⟩
theorem minv_rd (h : MInv s m0 m1) (h0 : s.oa = 0) : MInv s.rd.1 0 m1 := by
  unfold TS.rd
  rw [if_pos h0]
  exact ⟨h.a, fun _ => rfl, fun e => by simp at e, fun e => by simp at e, Nat.zero_le _, h.f⟩
theorem minv_W (h : MInv s m0 m1) (hf : s.fine) (hia : s.ia ≠ 0) : s.stepW.2.2.2 = 0 ∧ s.stepW.2.1 = [] ∧ MInv s.stepW.1 m0 (m1 + 1) ∧ (s.stepW.2.2.1 = true ∧ m1 + 1 = s.W + 1 ∧ s.stepW.1.ia = 0 ∨ s.stepW.2.2.1 = false ∧ m1 + 1 ≠ s.W + 1 ∧ s.stepW.1.ia ≠ 0) := by
  have h3 := hf.ok.ia.resolve_left hia
  have ha := h.a h3
  have hil := hf.ok.il h3
  have hw := hf.ok.w6
  unfold TS.stepW
  rw [if_neg hia]
  split
  · exact ⟨rfl, rfl, ⟨fun _ => by simp only []; omega, h.b, h.c, h.d, h.e, by omega⟩, .inr ⟨rfl, by omega, hia⟩⟩
  · exact ⟨rfl, rfl, ⟨fun e => by simp at e, h.b, h.c, h.d, h.e, by omega⟩, .inl ⟨rfl, by omega, rfl⟩⟩
theorem minv_R (h : MInv s m0 m1) (hf : s.fine) (hoa : s.oa ≠ 0) : s.stepR.2.2.2 = 0 ∧ MInv s.stepR.1 (m0 + 1) m1 ∧ (s.stepR.2.2.1 = true ∧ s.W + 1 ≤ m0 + 1 ∧ s.stepR.1.oa = 0 ∨ s.stepR.2.2.1 = false ∧ m0 + 1 ≤ s.W + 1 ∧ s.stepR.1.oa ≠ 0) := by
  have hw1 := hf.ok.w1
  have hw6 := hf.ok.w6
  unfold TS.stepR
  rw [if_neg hoa]
  split
  · rename_i h1
    have e := hf.o0 (.inl h1)
    have hb := h.b h1
    refine ⟨rfl, ⟨h.a, fun e1 => ?_, fun e2 => ?_, fun e3 => ?_, by omega, h.f⟩, .inr ⟨rfl, by omega, ?_⟩⟩
    · simp only [] at e1
      split at e1 <;> omega
    · omega
    · simp only [e, List.length_nil]; omega
    · simp only []
      split <;> omega
  split
  · rename_i h1 h2
    have e := hf.o0 (.inr h2)
    have hc := h.c h2
    exact ⟨rfl, ⟨h.a, fun e1 => by simp at e1, fun e1 => by simp at e1, fun e3 => by simp only [e, List.length_nil]; omega, by omega, h.f⟩, .inr ⟨rfl, by omega, by simp⟩⟩
  have h3 : s.oa = 3 := by have := hf.ok.oa; omega
  have hl := hf.ok.ol h3
  have hd := h.d h3
  split
  · refine ⟨rfl, ⟨h.a, fun e1 => ?_, fun e1 => ?_, fun e3 => ?_, by omega, h.f⟩, .inr ⟨rfl, by omega, hoa⟩⟩
    · simp only [] at e1; omega
    · simp only [] at e1; omega
    · simp only [List.length_append, List.length_singleton]; omega
  · exact ⟨rfl, ⟨h.a, fun e1 => by simp at e1, fun e1 => by simp at e1, fun e1 => by simp at e1, by omega, h.f⟩, .inl ⟨rfl, by omega, rfl⟩⟩
end

def aCells (m0 m1 : Nat) : Array Value := #[.int .i64 m0, .int .i64 m1]
structure AAt (W w : World) (b mb lb : Nat) (s : TS) (m0 m1 : Nat) : Prop where
  c : Ctx W w b mb lb s
  k : Blk w s.x 35 (aCells m0 m1)
  hx : W.heap.size ≤ s.x
  hr : ¬ regS b mb lb s.x
  mi : MInv s m0 m1
section
variable {W w w' : World} {b mb lb : Nat} {s s' : TS} {m0 m1 : Nat}
theorem AAt.below (h : AAt W w b mb lb s m0 m1) (hb : Below w.heap.size w w') : AAt W w' b mb lb s m0 m1 :=
  ⟨h.c.below hb, h.k.below hb h.k.lt, h.hx, h.hr, h.mi⟩
theorem AAt.k0 (h : AAt W w b mb lb s m0 m1) : w.cell? ⟨s.x, 0, none⟩ = some (.int .i64 m0) := (h.k.cell 0).trans rfl
theorem AAt.k1 (h : AAt W w b mb lb s m0 m1) : w.cell? ⟨s.x, 1, none⟩ = some (.int .i64 m1) := (h.k.cell 1).trans rfl
/-- What a step leaves, and the count that is laid then. -/
theorem AAt.mk' (h : AAt W w b mb lb s m0 m1) (hC : Ctx W w' b mb lb s') (hO : Only (regS b mb lb) w w') (hxe : s'.x = s.x) (i : Nat) (u : Value) {m0' m1' : Nat} (he : (aCells m0 m1).setIfInBounds i u = aCells m0' m1') (hm : MInv s' m0' m1') : AAt W (w'.setCell ⟨s.x, i, none⟩ u) b mb lb s' m0' m1' := by
  have hk := (blk_onl h.k hO h.hr).set i u
  rw [he] at hk
  have hc := hC.set i u (by rw [hxe]; exact h.hr) (by rw [hxe]; exact h.hx)
  rw [hxe] at hc
  exact ⟨hc, by rw [hxe]; exact hk, by rw [hxe]; exact h.hx, by rw [hxe]; exact h.hr, hm⟩
theorem AAt.onl (h : AAt W w b mb lb s m0 m1) (hC : Ctx W w' b mb lb s') (hO : Only (regS b mb lb) w w') (hxe : s'.x = s.x) (hm : MInv s' m0 m1) : AAt W w' b mb lb s' m0 m1 :=
  ⟨hC, by rw [hxe]; exact blk_onl h.k hO h.hr, by rw [hxe]; exact h.hx, by rw [hxe]; exact h.hr, hm⟩
end
theorem ints_made (w : World) (n : Nat) : IntsIn (w.alloc (.cells (madeCells #[.int .i64 0] n) 3)) (.slice (some ⟨w.heap.size, 0, none⟩) n n) (List.replicate n 0) := by
  have := Blk.new w 3 (madeCells #[.int .i64 0] n)
  rw [nums_zeros] at this ⊢
  exact ints_blk this (by simp)
set_option maxRecDepth 100000 in
set_option maxHeartbeats 3200000 in
theorem tripleAlone_law (n0 : Int) (A : Option Addr) (len cap bs off : Nat) (P : Nat → Bool) (w : World) (hS : BoolsIn w A len bs off P) (_ : len ≤ cap) (_ : cap ≤ maxLen) :
    Calls Tryd.prog 4 #[.int .i64 n0, .slice A len cap] w fun e w' => e = .returned (.bool true) ∧ Below w.heap.size w w' := by
  go_enter Tryd.func4, Tryd.ntmps4
  go_wp2_with fail
  refine (lives_any w).mono ?_
  rintro e w1 ⟨rfl, hB1⟩
  go_wp2_with fail
  refine (ctx_new n0 hB1).mono ?_
  rintro e w2 ⟨b, mb, lb, rfl, hB2, g1, g2, g3, l1, l2, l3, hC⟩
  have hs1 := hB1.size
  have HC := Lib.hid hC
  have HS := Lib.hid hS
  clear hC hS
  go_wp2_with fail
  refine (ctx_words (HC.out 0 w2 (Below.refl _ _) (by omega))).mono ?_
  rintro e w3 ⟨rfl, rfl⟩
  have HA := Lib.hid (show AAt w (w2.alloc (.cells (aCells 0 0) 35)) b mb lb (TS.newx (wordsOf n0) w2.heap.size) 0 0 from
    ⟨HC.out w2.heap.size _ (below_alloc (Nat.le_refl _) _) (by simp), Blk.new w2 35 (aCells 0 0), by show w.heap.size ≤ w2.heap.size; omega, by show ¬ regS b mb lb w2.heap.size; unfold regS; omega, ⟨fun e => by simp [TS.newx] at e, fun e => by simp [TS.newx] at e, fun e => by simp [TS.newx] at e, fun e => by simp [TS.newx] at e, by omega, by omega⟩⟩)
  have HXE := Lib.hid (show (TS.newx (wordsOf n0) w2.heap.size).x = w2.heap.size ∧ (TS.newx (wordsOf n0) w2.heap.size).W = wordsOf n0 from ⟨rfl, rfl⟩)
  have hwn := wordsOf_bd n0
  clear hB1 hB2 g1 g2 g3 l1 l2 l3 HC hs1
  go_wp2
  change Code.wp _ _ _ _ (w2.alloc (.cells (aCells 0 0) 35))
  generalize TS.newx (wordsOf n0) w2.heap.size = t0 at *
  generalize w2.alloc (.cells (aCells 0 0) 35) = wL at *
  generalize w2.heap.size = x at *
  rw [show (TS.new (wordsOf n0)).W = wordsOf n0 from rfl]
  generalize wordsOf n0 = n at *
  obtain ⟨hn1, hn6⟩ := hwn
  go_loopw [8] (fun i wr => ∃ (k : Nat) (s : TS) (m0 m1 : Nat), k ≤ len ∧ k ≤ 200 ∧ i = .int .i64 k ∧ AAt w wr b mb lb s m0 m1 ∧ s.x = x ∧ s.W = n) (fun i _ => len - (intOf i).toNat)
  case atStart => exact ⟨0, t0, 0, 0, Nat.zero_le _, by omega, rfl, HA.out, HXE.out.1, HXE.out.2⟩
  case round =>
    clear HA HXE
    obtain ⟨k, s, m0, m1, hk, hk3, rfl, hA, rfl, hWn⟩ := hrel
    have HA := Lib.hid hA
    have HWN := Lib.hid hWn
    clear hA hWn
    by_cases hlt : k < len ∧ k < 200
    · obtain ⟨hlt, hlt3⟩ := hlt
      obtain rfl : A = some ⟨bs, off, none⟩ := HS.out.at_.resolve_right (by omega)
      have b1 : (k : Int) < (len : Int) := by omega
      have b2 : (k : Int) < 200 := by omega
      have b0 : (0 : Int) ≤ (k : Int) := by omega
      cases hp : P k
      · have s0 := (HS.out.below HA.out.c.bel).c0 k hlt
        rw [hp] at s0
        go_wp2_with fail
        refine (ctx_busy HA.out.c false).mono ?_
        rintro e w4 ⟨rfl, rfl⟩
        go_upto_if 40 with (fail)
        go_cut [] (fun wx => ∃ (s1 : TS) (m0 m1 : Nat), AAt w wx b mb lb s1 m0 m1 ∧ s1.oa ≠ 0 ∧ s1.x = s.x ∧ s1.W = n)
        case first =>
          by_cases hoa : s.oa = 0
          · rw [show s.busy false = false by simp [TS.busy, hoa]]
            have k0 := HA.out.k0
            have f0 := HA.out.k.fr 0
            have HA1 := Lib.hid (HA.out.mk' HA.out.c (onl_refl _ _) rfl 0 (.int .i64 0) (m0' := 0) (m1' := m1) rfl ⟨HA.out.mi.a, fun _ => rfl, fun e => by omega, fun e => by omega, by omega, HA.out.mi.f⟩)
            have s0' : (wr.setCell ⟨s.x, 0, none⟩ (.int .i64 0)).cell? ⟨bs, off + k, none⟩ = some (.bool false) := by
              have := (HS.out.below HA1.out.c.bel).c0 k hlt
              rw [hp] at this
              exact this
            go_wp2_with fail
            generalize wr.setCell ⟨s.x, 0, none⟩ (.int .i64 0) = wm at *
            refine (ctx_read HA1.out.c).mono ?_
            rintro e w5 ⟨rfl, hC5, hO5⟩
            have HA5 := Lib.hid (HA1.out.onl hC5 hO5 (rd_x s).1 (minv_rd HA1.out.mi hoa))
            have HX5 := Lib.hid (rd_x s)
            clear hC5 hO5
            go_wp2_with fail
            go_meet
            exact ⟨_, 0, m1, HA5.out, by simp [TS.rd, hoa], HX5.out.1, HX5.out.2.trans HWN.out⟩
          · rw [show s.busy false = true by simp [TS.busy]; omega]
            go_wp2_with fail
            go_meet
            exact ⟨s, m0, m1, HA.out, hoa, rfl, HWN.out⟩
        case rest =>
          obtain ⟨s1, m0, m1, hA1, hia1, hx1, hw1⟩ := hcut
          have hst := ctx_step hA1.c false
          obtain ⟨hf1, hmi, hd⟩ := minv_R hA1.mi hA1.c.fine hia1
          have hf1' : (s1.step false).2.2.2 = 0 := hf1
          have hmi' : MInv (s1.step false).1 (m0 + 1) m1 := hmi
          have hd' : (s1.step false).2.2.1 = true ∧ s1.W + 1 ≤ m0 + 1 ∧ (s1.step false).1.oa = 0 ∨ (s1.step false).2.2.1 = false ∧ m0 + 1 ≤ s1.W + 1 ∧ (s1.step false).1.oa ≠ 0 := hd
          have hm8 := hmi'.e
          rw [hf1'] at hst
          rw [hw1] at hd'
          have HST := Lib.hid hst
          have HX := Lib.hid (step_x s1 false)
          have HMI := Lib.hid hmi'
          have HA1 := Lib.hid hA1
          have HE := Lib.hid (And.intro hx1 hw1)
          have HD := Lib.hid hd'
          have s0 := (HS.out.below hA1.c.bel).c0 k hlt
          rw [hp] at s0
          clear hst hf1 hmi hd hf1' hmi' hA1 hia1 hx1 hw1 hd' HA
          generalize (s1.step false).1 = s2 at *
          generalize (s1.step false).2.2.1 = d at *
          generalize (s1.step false).2.1 = l at *
          go_wp2_with fail
          refine HST.out.mono ?_
          rintro e w5 ⟨v, rfl, hC, hO, hi, -⟩
          obtain ⟨A5, c5, rfl⟩ := hi.form
          have hk := blk_onl HA1.out.k hO HA1.out.hr
          rw [HE.out.1] at hk
          have k0 : w5.cell? ⟨s.x, 0, none⟩ = some (.int .i64 m0) := (hk.cell 0).trans rfl
          have f0 := hk.fr 0
          have hA6 := HA1.out.mk' hC hO HX.out.1 0 (.int .i64 ((m0 : Int) + 1)) (m0' := m0 + 1) (m1' := m1) (by simp [aCells]) HMI.out
          rw [HE.out.1] at hA6
          have HA6 := Lib.hid hA6
          have j1 := hA6.k1
          have j0 := hA6.k0
          rw [HX.out.1, HE.out.1] at j1 j0
          have s6 := (HS.out.below hA6.c.bel).c0 k hlt
          rw [hp] at s6
          have HBU := Lib.hid (ctx_busy hA6.c false)
          have HXX := Lib.hid (And.intro (HX.out.1.trans HE.out.1) (HX.out.2.trans HE.out.2))
          clear hC hO hi hk hA6 HST HX HMI HA1 HE s0
          rcases HD.out with ⟨rfl, h1, h2⟩ | ⟨rfl, h1, h2⟩
          · rw [show s2.busy false = false by simp [TS.busy, h2]] at HBU
            have q1 : ¬ ((m0 + 1 : Nat) : Int) < (n : Int) + 1 := by omega
            clear HD h2
            go_wp2_with fail
            refine HBU.out.mono ?_
            rintro e w7 ⟨rfl, rfl⟩
            go_wp2
            go_round
            case rel => exact ⟨k + 1, s2, m0 + 1, m1, by omega, by omega, by go_num, HA6.out, HXX.out.1, HXX.out.2⟩
            case measure => simp [intOf]; omega
          · rw [show s2.busy false = true by simp [TS.busy]; omega] at HBU
            have q1 : ¬ ((m0 + 1 : Nat) : Int) > (n : Int) + 1 := by omega
            clear HD h2
            go_wp2_with fail
            refine HBU.out.mono ?_
            rintro e w7 ⟨rfl, rfl⟩
            go_wp2
            go_round
            case rel => exact ⟨k + 1, s2, m0 + 1, m1, by omega, by omega, by go_num, HA6.out, HXX.out.1, HXX.out.2⟩
            case measure => simp [intOf]; omega
      · have s0 := (HS.out.below HA.out.c.bel).c0 k hlt
        rw [hp] at s0
        go_wp2_with fail
        refine (ctx_busy HA.out.c true).mono ?_
        rintro e w4 ⟨rfl, rfl⟩
        have HSW := Lib.hid (HS.out.below HA.out.c.bel)
        go_upto_if 40 with (fail)
        go_cut [] (fun wx => ∃ (s1 : TS) (m0 m1 : Nat), AAt w wx b mb lb s1 m0 m1 ∧ s1.ia ≠ 0 ∧ s1.x = s.x ∧ s1.W = n)
        case first =>
          by_cases hia : s.ia = 0
          · rw [show s.busy true = false by simp [TS.busy, hia]]
            have k1 := HA.out.k1
            have f1 := HA.out.k.fr 1
            have HA1 := Lib.hid (HA.out.mk' HA.out.c (onl_refl _ _) rfl 1 (.int .i64 0) (m0' := m0) (m1' := 0) rfl ⟨fun e => by omega, HA.out.mi.b, HA.out.mi.c, HA.out.mi.d, HA.out.mi.e, by omega⟩)
            have s0' : (wr.setCell ⟨s.x, 1, none⟩ (.int .i64 0)).cell? ⟨bs, off + k, none⟩ = some (.bool true) := by
              have := (HS.out.below HA1.out.c.bel).c0 k hlt
              rw [hp] at this
              exact this
            have hmk := fun W => run_make_row' (P := Tryd.prog) 38 3 (.int .i64 0) 8 Tryd.underlying38 infoInt rfl .i64 .i64 n (by omega) (by omega) W
            clear HSW
            go_wp2_with fail
            have hwz : (wr.setCell ⟨s.x, 1, none⟩ (.int .i64 0)).heap.size = wr.heap.size := by simp
            rw [← hwz]
            generalize wr.setCell ⟨s.x, 1, none⟩ (.int .i64 0) = wm at *
            refine (ctx_write (HA1.out.below (below_alloc (Nat.le_refl _) _)).c (ints_made wm n) (by rw [HWN.out]; simp) (fun x hx => by have := (List.mem_replicate.1 hx).2; subst this; unfold okWord; omega) hia).mono ?_
            rintro e w5 ⟨rfl, hC5, hO5⟩
            have HA5 := Lib.hid ((HA1.out.below (below_alloc (Nat.le_refl _) (.cells (madeCells #[.int .i64 0] n) 3))).onl hC5 hO5 rfl (minv_wrt HA1.out.mi _))
            clear hC5 hO5
            go_wp2_with fail
            go_meet
            exact ⟨_, m0, 0, HA5.out, by simp [TS.wrt], rfl, HWN.out⟩
          · rw [show s.busy true = true by simp [TS.busy]; omega]
            go_wp2_with fail
            go_meet
            exact ⟨s, m0, m1, HA.out, hia, rfl, HWN.out⟩
        case rest =>
          obtain ⟨s1, m0, m1, hA1, hia1, hx1, hw1⟩ := hcut
          have hst := ctx_step hA1.c true
          obtain ⟨hf1, hf2, hmi, hd⟩ := minv_W hA1.mi hA1.c.fine hia1
          have hf1' : (s1.step true).2.2.2 = 0 := hf1
          have hf2' : (s1.step true).2.1 = [] := hf2
          have hmi' : MInv (s1.step true).1 m0 (m1 + 1) := hmi
          have hd' : (s1.step true).2.2.1 = true ∧ m1 + 1 = s1.W + 1 ∧ (s1.step true).1.ia = 0 ∨ (s1.step true).2.2.1 = false ∧ m1 + 1 ≠ s1.W + 1 ∧ (s1.step true).1.ia ≠ 0 := hd
          have hm8 := hmi'.f
          rw [hf1', hf2'] at hst
          rw [hw1] at hd'
          have HST := Lib.hid hst
          have HX := Lib.hid (step_x s1 true)
          have HMI := Lib.hid hmi'
          have HA1 := Lib.hid hA1
          have HE := Lib.hid (And.intro hx1 hw1)
          have HD := Lib.hid hd'
          have s0 := (HS.out.below hA1.c.bel).c0 k hlt
          rw [hp] at s0
          clear hst hf1 hf2 hmi hd hf1' hf2' hmi' hA1 hia1 hx1 hw1 hd' HSW HA
          generalize (s1.step true).1 = s2 at *
          generalize (s1.step true).2.2.1 = d at *
          go_wp2_with fail
          refine HST.out.mono ?_
          rintro e w5 ⟨v, rfl, hC, hO, hi, -⟩
          obtain ⟨A5, c5, rfl⟩ := hi.form
          have hk := blk_onl HA1.out.k hO HA1.out.hr
          rw [HE.out.1] at hk
          have k1 : w5.cell? ⟨s.x, 1, none⟩ = some (.int .i64 m1) := (hk.cell 1).trans rfl
          have f1 := hk.fr 1
          have hA6 := HA1.out.mk' hC hO HX.out.1 1 (.int .i64 ((m1 : Int) + 1)) (m0' := m0) (m1' := m1 + 1) (by simp [aCells]) HMI.out
          rw [HE.out.1] at hA6
          have HA6 := Lib.hid hA6
          have j1 := hA6.k1
          have j0 := hA6.k0
          rw [HX.out.1, HE.out.1] at j1 j0
          have s6 := (HS.out.below hA6.c.bel).c0 k hlt
          rw [hp] at s6
          have HBU := Lib.hid (ctx_busy hA6.c true)
          have HXX := Lib.hid (And.intro (HX.out.1.trans HE.out.1) (HX.out.2.trans HE.out.2))
          clear hC hO hi hk hA6 HST HX HMI HA1 HE s0
          rcases HD.out with ⟨rfl, h1, h2⟩ | ⟨rfl, h1, h2⟩
          · rw [show s2.busy true = false by simp [TS.busy, h2]] at HBU
            have q1 : (((m1 + 1 : Nat) : Int) == (n : Int) + 1) = true := by simp; omega
            clear HD h2
            go_wp2_with fail
            refine HBU.out.mono ?_
            rintro e w7 ⟨rfl, rfl⟩
            go_wp2
            go_round
            case rel => exact ⟨k + 1, s2, m0, m1 + 1, by omega, by omega, by go_num, HA6.out, HXX.out.1, HXX.out.2⟩
            case measure => simp [intOf]; omega
          · rw [show s2.busy true = true by simp [TS.busy]; omega] at HBU
            have q1 : (((m1 + 1 : Nat) : Int) == (n : Int) + 1) = false := by simp; omega
            clear HD h2
            go_wp2_with fail
            refine HBU.out.mono ?_
            rintro e w7 ⟨rfl, rfl⟩
            go_wp2
            go_round
            case rel => exact ⟨k + 1, s2, m0, m1 + 1, by omega, by omega, by go_num, HA6.out, HXX.out.1, HXX.out.2⟩
            case measure => simp [intOf]; omega
    · have hB := Lib.hid HA.out.c.bel
      clear HA
      have g1 : (1 : Int) ≤ (n : Int) := by omega
      have g6 : (n : Int) ≤ 6 := by omega
      by_cases h1 : k < len
      · obtain rfl : k = 200 := by omega
        go_wp2
        go_ret
        exact ⟨rfl, hB.out⟩
      · go_wp2
        go_ret
        exact ⟨rfl, hB.out⟩
end Go.Proofs.YtdhbiogcaekbbaaDoor
