/- SampleForward: numbers never go back; how long a value is valid. -/
import Derived.Test.YtmcelldklmjlkaaDoorSampleEmpty
import Derived.Test.YtmcelldklmjlkaaDoorSampR
import Derived.Test.YtmcelldklmjlkaaDoorOpens
import Derived.StillTailTactics
namespace Go.Proofs.YtmcelldklmjlkaaDoor
open Go.RowKit

def DF (t : Int) (_ _ : Nat) : Int := t
set_option maxRecDepth 100000 in
set_option maxHeartbeats 12800000 in
theorem sampleForward_law (a0 : Int) (A : Option Addr) (len cap bs off : Nat) (P : Nat → Bool) (w : World) (hS : BoolsIn w A len bs off P) (_ : len ≤ cap) (_ : cap ≤ maxLen) :
    Calls Tryd.prog 5 #[.int .i64 a0, .slice A len cap] w fun e w' => e = .returned (.bool true) ∧ Below w.heap.size w w' := by
  obtain ⟨j, hj, ej⟩ := mod_nat a0 40 (by omega)
  have HJ := Lib.hid (show wrap64 ((IntKind.u64.wrap a0).tmod 40) = (j : Int) from ej)
  clear ej
  have HS := Lib.hid hS
  clear hS
  go_enter Tryd.func5, Tryd.ntmps5
  go_wp2_with fail
  refine (lives_any w).mono ?_
  rintro e w1 ⟨rfl, hB1⟩
  go_upto_region 3 with (fail)
  go_cut [5] (fun v wx => v = .int .i64 j ∧ wx = w1)
  case first =>
    go_wp2_with fail
    go_meet
    exact ⟨by rw [HJ.out], rfl⟩
  case rest =>
    obtain ⟨rfl, rfl⟩ := hcut
    clear HJ
    go_wp2_with fail
    refine (snew_any wc 1 j).mono ?_
    rintro e w2 ⟨W, pb, kb, b, mb, lb, X, rfl, hW, hP⟩
    rw [pwords1] at hP
    have HB := Lib.hid (hB1.trans (hW.mono hB1.size))
    have HP := Lib.hid hP
    clear hB1 hW hP
    go_wp2
    go_loopw [7, 8] (fun lv i wr => ∃ (k : Nat) (p : SP) (T : Nat → Int) (begun over low last : Nat), k ≤ len ∧ k ≤ 300 ∧ i = .int .i64 k ∧ lv = .int .i64 last ∧ PCtx W wr pb kb b mb lb X p ∧ QInv DF True p T begun over low last k ∧ p.f = j ∧ p.n = 1) (fun _ i _ => len - (intOf i).toNat)
    case atStart => exact ⟨0, _, _, 0, 0, 0, 0, Nat.zero_le _, by omega, rfl, rfl, HP.out, qinv_new DF True 1 j (by omega) (by omega), rfl, rfl⟩
    case round =>
      clear HP
      obtain ⟨k, p, T, begun, over, low, last, hk, hk3, rfl, rfl, hP, hI, hf, hn⟩ := hrel
      by_cases hlt : k < len ∧ k < 300
      · obtain ⟨hlt, hlt3⟩ := hlt
        have hSr := HS.out.below (HB.out.trans (hP.bel.mono HB.out.size))
        obtain rfl : A = some ⟨bs, off, none⟩ := hSr.at_.resolve_right (by omega)
        have s0 := hSr.c0 k hlt
        have b1 : (k : Int) < (len : Int) := by omega
        have b2 : (k : Int) < 300 := by omega
        have b0 : (0 : Int) ≤ (k : Int) := by omega
        have HSP := Lib.hid (fun wx (hb : Below W.heap.size W wx) => (HS.out.below (HB.out.trans (hb.mono HB.out.size))).c0 k hlt)
        have HP := Lib.hid hP
        have HI := Lib.hid hI
        have HFN := Lib.hid (And.intro hf hn)
        clear hSr hP hI hf hn
        generalize hpk : P k = x at *
        have HL := Lib.hid (sctx_left HP.out x)
        go_wp2_with fail
        refine HL.out.mono ?_
        rintro e w3 ⟨rfl, rfl⟩
        clear HL
        go_upto_if 37 with (fail)
        go_cut [] (fun wx => ∃ (p1 : SP) (T1 : Nat → Int) (begun1 low1 : Nat), PCtx W wx pb kb b mb lb X p1 ∧ QInv DF True p1 T1 begun1 over low1 last (k + 1) ∧ p1.f = j ∧ p1.n = 1 ∧ p1.s.left x ≠ 0)
        case first =>
          clear HSP
          cases x
          · by_cases how : p.s.ow = 0
            · have bz : ((p.s.ow : Int) == 0) = true := by simp [how]
              have HR := Lib.hid (sctx_read HP.out)
              obtain ⟨r1, r2⟩ := qinv_rd HI.out how
              have HI2 := Lib.hid r2
              rw [r1] at HR
              have hl : p.rd.1.s.left false ≠ 0 := by
                show p.s.rd.1.ow ≠ 0
                unfold FS.rd
                rw [if_pos how]
                simp
              have HLL := Lib.hid hl
              rw [show p.s.left false = p.s.ow from rfl]
              clear r1 r2 hl how
              go_wp2_with fail
              refine HR.out.mono ?_
              rintro e w3 ⟨rfl, h3, -⟩
              have H3 := Lib.hid h3
              clear h3
              go_wp2_with fail
              go_meet
              exact ⟨_, T, begun, over, H3.out, qinv_tick HI2.out, HFN.out.1, HFN.out.2, HLL.out⟩
            · have bz : ((p.s.ow : Int) == 0) = false := by simp [how]
              rw [show p.s.left false = p.s.ow from rfl]
              go_wp2_with fail
              go_meet
              exact ⟨p, T, begun, low, HP.out, qinv_tick HI.out, HFN.out.1, HFN.out.2, how⟩
          · by_cases hiw : p.s.iw = 0
            · have bz : ((p.s.iw : Int) == 0) = true := by simp [hiw]
              obtain ⟨e1, e2⟩ := qinv_wr HI.out (by omega) hiw [(k : Int)] (by rw [HFN.out.2]; rfl) (by intro v hv; have hv2 : v = (k : Int) := (by simpa using hv); unfold okWord; omega)
              have HI2 := Lib.hid (e2 (fun y => if y = begun + 1 then (k : Int) else T y) (fun y hy => if_neg (by omega)) (if_pos rfl))
              have HW := Lib.hid (sctx_write (HP.out.below (below_alloc (Nat.le_refl _) _)) (ints_new wr 3 (k : Int)) (by simp) (k : Int))
              have hl : (p.wr [(k : Int)] k).1.s.left true ≠ 0 ∧ (p.wr [(k : Int)] k).1.f = p.f ∧ (p.wr [(k : Int)] k).1.n = p.n := by
                have e3 := congrArg Prod.fst e1
                rw [e3]
                refine ⟨?_, rfl, rfl⟩
                show p.s.W + 4 ≠ 0
                omega
              have HLL := Lib.hid hl
              rw [show p.s.left true = p.s.iw from rfl]
              clear e1 e2 hl hiw
              go_wp2_with fail
              refine HW.out.mono ?_
              rintro e w3 ⟨rfl, h3, -⟩
              have H3 := Lib.hid h3
              clear h3
              generalize (p.wr [(k : Int)] k).2 = g0 at *
              go_wp2_with fail
              go_meet
              exact ⟨_, _, begun + 1, low, H3.out, HI2.out, HLL.out.2.1.trans HFN.out.1, HLL.out.2.2.trans HFN.out.2, HLL.out.1⟩
            · have bz : ((p.s.iw : Int) == 0) = false := by simp [hiw]
              rw [show p.s.left true = p.s.iw from rfl]
              go_wp2_with fail
              go_meet
              exact ⟨p, T, begun, low, HP.out, qinv_tick HI.out, HFN.out.1, HFN.out.2, hiw⟩
        case rest =>
          obtain ⟨p1, T1, begun1, low1, hP1, hI1, hf1, hn1, hl1⟩ := hcut
          clear HP HI HFN s0
          have s1 := HSP.out wc hP1.bel
          have HST := Lib.hid (sctx_step hP1 x k)
          have HXP := Lib.hid hP1.xp
          generalize hd : (p1.s.step x).2.2 = de at *
          obtain ⟨d, er⟩ := de
          have HD := Lib.hid hd
          generalize hv : p1.val x k = vv at *
          have HV := Lib.hid hv
          generalize hp2 : p1.stp x = p2 at *
          have HP2 := Lib.hid hp2
          have HI1 := Lib.hid (And.intro hI1 (And.intro hf1 (And.intro hn1 hl1)))
          clear hP1 hd hv hp2 hI1 hf1 hn1 hl1
          go_upto_region 13 with (fail)
          go_cut [9, 10, 11] (fun y1 y2 y3 wx => ∃ y Au cu, y1 = .pointer (some ⟨y, 0, none⟩) ∧ y2 = .bool d ∧ y3 = .int .i64 er ∧ Blk wx y 32 (valC (.slice Au vv.l.length cu) vv) ∧ PCtx W wx pb kb b mb lb X p2 ∧ IntsIn wx (.slice Au vv.l.length cu) vv.l)
          case first =>
            go_wp2_with fail
            refine HST.out.mono ?_
            rintro e w3 ⟨u, rfl, ⟨hP, -⟩, hw⟩
            obtain ⟨Au, cu, rfl⟩ := hw.1.form
            have hba := below_alloc (w := w3) (Nat.le_refl _) (.cells (valC (.slice Au vv.l.length cu) vv) 32)
            have HR := Lib.hid (And.intro (Blk.new w3 32 (valC (.slice Au vv.l.length cu) vv)) (And.intro ((hP.less (Y := X) (fun k e => .inl e) HXP.out).below hba) (hw.1.below hba)))
            clear hP hw hba HST
            unfold valC at HR ⊢
            go_wp2_with fail
            go_meet
            exact ⟨_, _, _, rfl, rfl, rfl, HR.out⟩
          case rest =>
            obtain ⟨y, Au, cu, rfl, rfl, rfl, hyb, hP, hIv⟩ := hcut
            have s2 := HSP.out wc hP.bel
            clear s1 HST HSP
            obtain ⟨hI1, hf1, hn1, hl1⟩ := HI1.out
            cases x
            · obtain ⟨q1, q2, q3⟩ := qinv_stepR hI1 hl1 k
              rw [HD.out] at q1
              obtain ⟨rfl, rfl⟩ : d = decide (p1.s.ow = 1) ∧ er = 0 := by injection q1 with a1 a2; exact ⟨a1, a2⟩
              rw [HP2.out] at q2 q3
              rw [HV.out] at q3
              have hf2 : p2.f = j ∧ p2.n = 1 := by rw [← HP2.out]; exact ⟨hf1, hn1⟩
              have HF2 := Lib.hid hf2
              by_cases how : p1.s.ow = 1
              · obtain ⟨vo, q4, q5, q6, q7, q8⟩ := q3 how
                have hlast := q7 trivial
                have ht := hI1.t vo q6
                rw [decide_eq_true how]
                have HQ8 := Lib.hid q8
                have HP := Lib.hid hP
                by_cases h0 : vo = 0
                · rw [if_pos h0] at q4
                  subst q4
                  obtain rfl : last = 0 := by omega
                  have y0 : wc.cell? ⟨y, 0, none⟩ = some (.slice Au 0 cu) := (hyb.cell 0).trans rfl
                  have y1 : wc.cell? ⟨y, 1, none⟩ = some (.int .i64 0) := (hyb.cell 1).trans rfl
                  have y2 : wc.cell? ⟨y, 2, none⟩ = some (.int .i64 0) := (hyb.cell 2).trans rfl
                  have y3 : wc.cell? ⟨y, 3, none⟩ = some (.bool false) := (hyb.cell 3).trans rfl
                  have y4 : wc.cell? ⟨y, 4, none⟩ = some (.bool false) := (hyb.cell 4).trans rfl
                  subst h0
                  clear q1 q2 q3 q5 q6 q7 q8 hlast ht hyb hIv hP hI1 hf1 hn1 hl1 how HV HD HP2 HI1 hf2
                  go_wp2
                  go_quiet (fail)
                  go_wp2
                  go_round
                  case rel => exact ⟨k + 1, p2, T1, begun1, over, low1, 0, by omega, by omega, by go_num, rfl, HP.out.below (below_drewN' _ _), HQ8.out, HF2.out.1, HF2.out.2⟩
                  case measure => simp [intOf]; omega
                · rw [if_neg h0, hn1, hf1] at q4
                  obtain ⟨t, htt⟩ : ∃ t, t = T1 vo := ⟨_, rfl⟩
                  rw [← htt] at q4 ht
                  rw [show (List.range 1).map (DF t vo) = [t] from rfl] at q4
                  subst q4
                  have hag : ageI (k : Int) t ≤ (j : Int) ↔ (k : Int) ≤ t + (j : Int) := by unfold ageI cut; omega
                  obtain ⟨A', c', e, -, hc⟩ := hIv
                  obtain ⟨g, o, rfl, hcell⟩ := hc (by simp)
                  have g0 : wc.cell? ⟨g, o, none⟩ = some (.int .i64 t) := hcell 0 (by simp)
                  injection e with a1 a2 a3
                  subst a1
                  have y0 : wc.cell? ⟨y, 0, none⟩ = some (.slice (some ⟨g, o, none⟩) 1 cu) := (hyb.cell 0).trans rfl
                  have y1 : wc.cell? ⟨y, 1, none⟩ = some (.int .i64 vo) := (hyb.cell 1).trans rfl
                  have y2 : wc.cell? ⟨y, 2, none⟩ = some (.int .i64 t) := (hyb.cell 2).trans rfl
                  have y3 : wc.cell? ⟨y, 3, none⟩ = some (.bool true) := (hyb.cell 3).trans rfl
                  have b9 : decide ((vo : Int) < (last : Int)) = false := decide_eq_false (by omega)
                  have b8 : decide (vo < last) = false := decide_eq_false (by omega)
                  obtain ⟨t0, t1⟩ := ht
                  have t2 : t ≤ 301 := by omega
                  have hw : IntKind.i64.wrap (t + (j : Int)) = t + (j : Int) := by rw [IntKind.wrap_i64]; omega
                  have HTT := Lib.hid htt
                  clear hc hcell a2 a3 htt
                  by_cases hq : (k : Int) ≤ t + (j : Int)
                  · have b7 : decide ((k : Int) ≤ t + (j : Int)) = true := decide_eq_true hq
                    have y4 : wc.cell? ⟨y, 4, none⟩ = some (.bool true) := (hyb.cell 4).trans (by rw [decide_eq_true (hag.2 hq)]; rfl)
                    clear q1 q2 q3 q5 q6 q7 q8 hlast hyb hP hI1 hf1 hn1 hl1 how HV HD HP2 HI1 hf2 hag
                    go_wp2
                    go_quiet (fail)
                    go_wp2
                    go_round
                    case rel => exact ⟨k + 1, p2, T1, begun1, over, low1, vo, by omega, by omega, by go_num, rfl, HP.out.below (below_drewN' _ _), HQ8.out, HF2.out.1, HF2.out.2⟩
                    case measure => simp [intOf]; omega
                  · have b7 : decide ((k : Int) ≤ t + (j : Int)) = false := decide_eq_false hq
                    have y4 : wc.cell? ⟨y, 4, none⟩ = some (.bool false) := (hyb.cell 4).trans (by rw [decide_eq_false (fun e => hq (hag.1 e))]; rfl)
                    clear q1 q2 q3 q5 q6 q7 q8 hlast hyb hP hI1 hf1 hn1 hl1 how HV HD HP2 HI1 hf2 hag
                    go_wp2
                    go_quiet (fail)
                    go_wp2
                    go_round
                    case rel => exact ⟨k + 1, p2, T1, begun1, over, low1, vo, by omega, by omega, by go_num, rfl, HP.out.below (below_drewN' _ _), HQ8.out, HF2.out.1, HF2.out.2⟩
                    case measure => simp [intOf]; omega
              · rw [decide_eq_false how]
                have HQ := Lib.hid q2
                have HP := Lib.hid hP
                clear q1 q2 q3 hyb hIv hP hI1 hf1 hn1 hl1 how HV HD HP2 HI1 hf2
                go_wp2
                go_round
                case rel => exact ⟨k + 1, p2, T1, begun1, over, low1, last, by omega, by omega, by go_num, rfl, HP.out, HQ.out, HF2.out.1, HF2.out.2⟩
                case measure => simp [intOf]; omega
            · obtain ⟨q1, q2⟩ := qinv_stepW hI1 hl1
              rw [HD.out] at q1
              obtain ⟨rfl, rfl⟩ : d = decide (p1.s.iw = 1) ∧ er = 0 := by injection q1 with a1 a2; exact ⟨a1, a2⟩
              rw [HP2.out] at q2
              have hf2 : p2.f = j ∧ p2.n = 1 := by rw [← HP2.out]; exact ⟨hf1, hn1⟩
              have HF2 := Lib.hid hf2
              have HQ := Lib.hid q2
              have HP := Lib.hid hP
              generalize (if p1.s.iw = 1 then begun1 else over) = ov at *
              generalize decide (p1.s.iw = 1) = d at *
              clear q1 q2 hyb hIv hP hI1 hf1 hn1 hl1 HV HD HP2 HI1 hf2
              cases d
              all_goals
                go_wp2
                go_round
                case rel => exact ⟨k + 1, p2, T1, begun1, ov, low1, last, by omega, by omega, by go_num, rfl, HP.out, HQ.out, HF2.out.1, HF2.out.2⟩
                case measure => simp [intOf]; omega
      · have hl := qinv_last hI trivial
        have hq := hI.q
        have HBF := Lib.hid (HB.out.trans (hP.bel.mono HB.out.size))
        have HSQ := Lib.hid (sctx_seq hP)
        rw [hq] at HSQ
        have b9 : (last : Int) ≤ (begun : Int) := by omega
        clear hP hI hq hf hn hl
        by_cases h1 : k < len
        · obtain rfl : k = 300 := by omega
          have b1 : ((300 : Nat) : Int) < (len : Int) := by omega
          clear hlt
          go_wp2_with fail
          refine HSQ.out.mono ?_
          rintro e w3 ⟨rfl, rfl⟩
          go_wp2
          go_ret
          exact ⟨rfl, HBF.out⟩
        · obtain rfl : k = len := by omega
          clear hlt
          go_wp2_with fail
          refine HSQ.out.mono ?_
          rintro e w3 ⟨rfl, rfl⟩
          go_wp2
          go_ret
          exact ⟨rfl, HBF.out⟩
end Go.Proofs.YtmcelldklmjlkaaDoor
