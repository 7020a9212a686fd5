/- SampleWhole: what is read is one write's. -/
import Derived.Test.YtmcelldklmjlkaaDoorSampT
import Derived.Deep.AppendLies
namespace Go.Proofs.YtmcelldklmjlkaaDoor
open Go.RowKit

/-- Turns that came in: their cells. -/
structure TurnIn (w : World) (A : Option Addr) (n : Nat) (bs off : Nat) (P Q : Nat → Bool) : Prop where
  at_ : A = some ⟨bs, off, none⟩ ∨ n = 0
  c0 : ∀ i, i < n → w.cell? ⟨bs, off + i * 2, none⟩ = some (.bool (P i))
  c1 : ∀ i, i < n → w.cell? ⟨bs, off + i * 2 + 1, none⟩ = some (.bool (Q i))
theorem TurnIn.below {w w' : World} {A : Option Addr} {n bs off : Nat} {P Q : Nat → Bool} (h : TurnIn w A n bs off P Q) (hb : Below w.heap.size w w') : TurnIn w' A n bs off P Q :=
  ⟨h.at_, fun i hi => (hb.cell (World.block_lt_of_cell? _ _ (h.c0 i hi))).trans (h.c0 i hi), fun i hi => (hb.cell (World.block_lt_of_cell? _ _ (h.c1 i hi))).trans (h.c1 i hi)⟩
theorem own_keep {w w' : World} {base : Nat} {e : TypeId} {size n : Nat} {v : Value} {xs : List Value} (h : w.ownsRow base e size v n xs) (hk : ∀ g, v.ownBlock = some g → w'.heap[g]? = w.heap[g]?) : w'.ownsRow base e size v n xs := by
  obtain ⟨h1, h2⟩ := h
  refine ⟨h1, ?_⟩
  rcases h2 with h2 | ⟨g, cap, cur, hv, hg, hh, r⟩
  · exact Or.inl h2
  · exact Or.inr ⟨g, cap, cur, hv, hg, by rw [hk g (by rw [hv]; rfl)]; exact hh, r⟩
/-- The stamps, in a row of the law's own. -/
structure Stamps (w : World) (B0 : Nat) (X : Nat → Prop) (sv : Value) (begun : Nat) (T : Nat → Int) : Prop where
  o : w.ownsRow B0 3 1 sv (begun + 1) (nums ((List.range (begun + 1)).map T))
  x : ∀ g, sv.ownBlock = some g → X g
section
variable {W w w' : World} {B0 pb kb b mb lb : Nat} {X Y : Nat → Prop} {sv : Value} {begun : Nat} {T : Nat → Int} {p : SP}
theorem Stamps.keep (h : Stamps w B0 X sv begun T) (hk : ∀ g, sv.ownBlock = some g → w'.heap[g]? = w.heap[g]?) (hX : ∀ k, X k → Y k) : Stamps w' B0 Y sv begun T := ⟨own_keep h.o hk, fun g e => hX g (h.x g e)⟩
theorem Stamps.below (h : Stamps w B0 X sv begun T) (hb : Below w.heap.size w w') (hX : ∀ k, X k → Y k) : Stamps w' B0 Y sv begun T := h.keep (fun g hg => hb.block g (h.o.lt g hg).2) hX
theorem Stamps.kept (h : Stamps w B0 X sv begun T) (hk : PKept pb X w w') (hp : pb < B0) : Stamps w' B0 X sv begun T := h.keep (fun g hg => hk g (h.x g hg) (by have := (h.o.lt g hg).1; omega)) (fun _ e => e)
end
theorem dec_facts (vo low1 begun1 : Nat) (h0 : ¬ vo = 0) (h1 : low1 ≤ vo) (h2 : vo ≤ begun1) : decide ((0 : Int) < (vo : Int)) = true ∧ decide (0 < vo) = true ∧ decide ((vo : Int) < (low1 : Int)) = false ∧ decide (vo < low1) = false ∧ decide ((begun1 : Int) + 1 ≤ (vo : Int)) = false ∧ decide (begun1 + 1 ≤ vo) = false ∧ decide (begun1 < vo) = false ∧ (0 : Int) ≤ (vo : Int) ∧ (vo : Int) < (begun1 : Int) + 1 ∧ vo < begun1 + 1 :=
  ⟨decide_eq_true (by omega), decide_eq_true (by omega), decide_eq_false (by omega), decide_eq_false (by omega), decide_eq_false (by omega), decide_eq_false (by omega), decide_eq_false (by omega), by omega, by omega, by omega⟩
theorem ownB (A : Option Addr) (n m c : Nat) : (Value.slice A n c).ownBlock = (Value.slice A m c).ownBlock := by cases A <;> rfl
theorem stamps_next (T : Nat → Int) (begun : Nat) (k : Int) : nums ((List.range (begun + 1 + 1)).map (fun y => if y = begun + 1 then k else T y)) = nums ((List.range (begun + 1)).map T) ++ [.int .i64 k] := by
  rw [List.range_succ, List.map_append, List.map_cons, List.map_nil, if_pos rfl]
  unfold nums
  rw [List.map_append]
  congr 2
  refine List.map_congr_left fun y hy => ?_
  rw [if_neg (by have := List.mem_range.1 hy; omega)]
set_option maxRecDepth 100000 in
set_option maxHeartbeats 12800000 in
theorem sampleWhole_law (a0 : Int) (A : Option Addr) (len cap bs off : Nat) (P Q : Nat → Bool) (w : World) (hS : TurnIn w A len bs off P Q) (_ : len ≤ cap) (_ : cap ≤ maxLen) :
    Calls Tryd.prog 6 #[.int .i64 a0, .slice A len cap] w fun e w' => e = .returned (.bool true) ∧ Below w.heap.size w w' := by
  obtain ⟨j, hj, ej⟩ := mod_nat a0 4 (by omega)
  obtain ⟨n, hn⟩ : ∃ n, n = 1 + j := ⟨_, rfl⟩
  have HJ := Lib.hid (show wrap64 (1 + wrap64 ((IntKind.u64.wrap a0).tmod 4)) = (n : Int) from by
    have e : wrap64 ((IntKind.u64.wrap a0).tmod 4) = (j : Int) := ej
    rw [e]; unfold wrap64; omega)
  have n1 : 1 ≤ n := by omega
  have n4 : n ≤ 4 := by omega
  clear ej hn hj
  have HS := Lib.hid hS
  clear hS
  go_enter Tryd.func6, Tryd.ntmps6
  go_wp2_with fail
  refine (lives_any w).mono ?_
  rintro e w1 ⟨rfl, hB1⟩
  go_upto_region 3 with (fail)
  go_cut [5] (fun v wx => v = .int .i64 n ∧ wx = w1)
  case first =>
    go_wp2_with fail
    go_meet
    exact ⟨by rw [HJ.out], rfl⟩
  case rest =>
    obtain ⟨rfl, rfl⟩ := hcut
    clear HJ
    go_wp2_with fail
    refine (snew_any wc n 20).mono ?_
    rintro e w2 ⟨W, pb, kb, b, mb, lb, X, rfl, hW, hP⟩
    rw [show pwords (n : Int) = n by unfold pwords; omega] at hP
    have HB := Lib.hid (hB1.trans (hW.mono hB1.size))
    obtain ⟨B0, hB0⟩ : ∃ B0, B0 = w2.heap.size := ⟨_, rfl⟩
    have hpb : pb < B0 := by have := hP.k.lt; omega
    have hWB : W.heap.size ≤ B0 := by have := hP.bel.size; omega
    have hba := below_alloc (w := w2) (Nat.le_refl _) (.cells #[.int .i64 0] 3)
    have HP := Lib.hid (hP.grow hba)
    have HBS := Lib.hid (show B0 ≤ w2.heap.size by omega)
    have HST := Lib.hid (show Stamps (w2.alloc (.cells #[.int .i64 0] 3)) B0 (newX X w2 (w2.alloc (.cells #[.int .i64 0] 3))) (.slice (some ⟨w2.heap.size, 0, none⟩) 1 1) 0 (fun _ => 0) from
      ⟨by rw [hB0]; exact World.ownsRow_lit (base := w2.heap.size) (e := 3) (size := 1) w2 #[.int .i64 0] 1 (Nat.le_refl _) (by decide) rfl, fun g hg => by simp [Value.ownBlock] at hg; subst hg; exact .inr ⟨Nat.le_refl _, by simp⟩⟩)
    clear hB1 hW hP hba hB0
    go_wp2
    go_loopw [7, 8, 9, 10] (fun sv ov lv i wr => ∃ (k : Nat) (p : SP) (T : Nat → Int) (begun over low : Nat) (X : Nat → Prop), k ≤ len ∧ k ≤ 300 ∧ i = .int .i64 k ∧ ov = .int .i64 over ∧ lv = .int .i64 low ∧ PCtx W wr pb kb b mb lb X p ∧ QInv DW False p T begun over low 0 k ∧ p.f = 20 ∧ p.n = n ∧ Stamps wr B0 X sv begun T) (fun _ _ _ i _ => len - (intOf i).toNat)
    case atStart => exact ⟨0, _, _, 0, 0, 0, _, Nat.zero_le _, by omega, rfl, rfl, rfl, HP.out, qinv_new DW False n 20 n1 n4, rfl, rfl, HST.out⟩
    case round =>
      clear HP HST
      obtain ⟨k, p, T, begun, over, low, X, hk, hk3, rfl, rfl, rfl, hP, hI, hf, hn, hst⟩ := hrel
      have hbk := hI.b
      obtain ⟨As, cs, rfl⟩ := own_form hst.o
      by_cases hlt : k < len ∧ k < 300
      · obtain ⟨hlt, hlt3⟩ := hlt
        have hSr := HS.out.below (HB.out.trans (hP.bel.mono HB.out.size))
        obtain rfl : A = some ⟨bs, off, none⟩ := hSr.at_.resolve_right (by omega)
        have s0 := hSr.c0 k hlt
        have s1 := hSr.c1 k hlt
        have b1 : (k : Int) < (len : Int) := by omega
        have b2 : (k : Int) < 300 := by omega
        have b0 : (0 : Int) ≤ (k : Int) := by omega
        have HI := Lib.hid hI
        have HFN := Lib.hid (And.intro hf hn)
        generalize hpk : P k = x at *
        generalize hqk : Q k = y at *
        clear hSr hI hf hn hpk hqk
        cases y
        · have hba := below_alloc (w := wr) (Nat.le_refl _) (.cells #[.bool x, .bool false] 72)
          have hP1 := hP.grow hba
          have hst1 := hst.below hba (Y := newX X wr (wr.alloc (.cells #[.bool x, .bool false] 72))) (fun k e => .inl e)
          have htb := Blk.new wr 72 #[.bool x, .bool false]
          have hXt : newX X wr (wr.alloc (.cells #[.bool x, .bool false] 72)) wr.heap.size := .inr ⟨Nat.le_refl _, by simp⟩
          have htp : wr.heap.size ≠ pb := by have := hP.k.lt; omega
          have htr : ∀ g, (Value.slice As (begun + 1) cs).ownBlock = some g → g < wr.heap.size := fun g hg => (hst.o.lt g hg).2
          have HR := Lib.hid (And.intro hP1 (And.intro hst1 (And.intro htb (And.intro hXt (And.intro htp htr)))))
          have HL := Lib.hid (sctx_left hP1 x)
          clear hP hst hba hP1 hst1 htb hXt htp htr
          go_wp2_with fail
          refine HL.out.mono ?_
          rintro e w3 ⟨rfl, rfl⟩
          clear HL s0 s1
          generalize newX X wr (wr.alloc (.cells #[.bool x, .bool false] 72)) = Xa at *
          generalize wr.alloc (.cells #[.bool x, .bool false] 72) = wa at *
          generalize wr.heap.size = tb at *
          have HTP := Lib.hid HR.out.2.2.2.2.1
          have t0 : wa.cell? ⟨tb, 0, none⟩ = some (.bool x) := (HR.out.2.2.1.cell 0).trans rfl
          go_upto_if 53 with (fail)
          go_cut [7, 9, 12, 13] (fun sv1 lv1 _ _ wx => ∃ (p1 : SP) (T1 : Nat → Int) (begun1 low1 : Nat) (X1 : Nat → Prop), lv1 = .int .i64 low1 ∧ PCtx W wx pb kb b mb lb X1 p1 ∧ QInv DW False p1 T1 begun1 over low1 0 (k + 1) ∧ p1.f = 20 ∧ p1.n = n ∧ p1.s.left x ≠ 0 ∧ Stamps wx B0 X1 sv1 begun1 T1 ∧ Blk wx tb 72 #[.bool x, .bool false] ∧ X1 tb)
          case first =>
            cases x
            · by_cases how : p.s.ow = 0
              · have bz : ((p.s.ow : Int) == 0) = true := by simp [how]
                have HRD := Lib.hid (sctx_read HR.out.1)
                obtain ⟨r1, r2⟩ := qinv_rd HI.out how
                have HI2 := Lib.hid r2
                rw [r1] at HRD
                have hl : p.rd.1.s.left false ≠ 0 := by
                  show p.s.rd.1.ow ≠ 0
                  unfold FS.rd
                  rw [if_pos how]
                  simp
                have HLL := Lib.hid hl
                rw [show p.s.left false = p.s.ow from rfl]
                clear r1 r2 hl how
                go_wp2_with fail
                refine HRD.out.mono ?_
                rintro e w3 ⟨rfl, h3, k3⟩
                have HF := Lib.hid (And.intro h3 (And.intro (HR.out.2.1.kept k3 hpb) (HR.out.2.2.1.of (k3 tb HR.out.2.2.2.1 HR.out.2.2.2.2.1))))
                clear h3 k3 t0
                go_wp2_with fail
                go_meet
                exact ⟨_, T, begun, over, Xa, rfl, HF.out.1, qinv_tick HI2.out, HFN.out.1, HFN.out.2, HLL.out, HF.out.2.1, HF.out.2.2, HR.out.2.2.2.1⟩
              · have bz : ((p.s.ow : Int) == 0) = false := by simp [how]
                rw [show p.s.left false = p.s.ow from rfl]
                go_wp2_with fail
                go_meet
                exact ⟨p, T, begun, low, Xa, rfl, HR.out.1, qinv_tick HI.out, HFN.out.1, HFN.out.2, how, HR.out.2.1, HR.out.2.2.1, HR.out.2.2.2.1⟩
            · by_cases hiw : p.s.iw = 0
              · have bz : ((p.s.iw : Int) == 0) = true := by simp [hiw]
                rw [show p.s.left true = p.s.iw from rfl]
                have hmk := fun W' => run_make_row' (P := Tryd.prog) 29 3 (.int .i64 0) 8 Tryd.underlying29 infoInt rfl .i64 .i64 n (by omega) (by omega) W'
                obtain ⟨m, hm⟩ : ∃ m, m = begun + 1 := ⟨_, rfl⟩
                have HM := Lib.hid hm
                have hm1 : (m : Int) ≤ 400 := by omega
                have hm0 : (0 : Int) ≤ (m : Int) := by omega
                rw [← hm]
                have hn4' : (n : Int) ≤ 4 := by omega
                have HIW := Lib.hid hiw
                clear hm hiw
                go_wp2_with fail
                have hba := below_alloc (w := wa) (Nat.le_refl _) (.cells (madeCells #[.int .i64 0] n) 3)
                have hg0 := Blk.new wa 3 (madeCells #[.int .i64 0] n)
                have hPl := HR.out.1.grow hba
                have HWL := Lib.hid (And.intro hPl (And.intro (HR.out.2.1.below hba (Y := newX Xa wa (wa.alloc (.cells (madeCells #[.int .i64 0] n) 3))) (fun k e => .inl e)) (And.intro (HR.out.2.2.1.below hba HR.out.2.2.1.lt) (show newX Xa wa (wa.alloc (.cells (madeCells #[.int .i64 0] n) 3)) wa.heap.size from .inr ⟨Nat.le_refl _, by simp⟩))))
                have hgp : wa.heap.size ≠ pb := by have := HR.out.1.k.lt; omega
                have hgt : tb < wa.heap.size := HR.out.2.2.1.lt
                have hgW : W.heap.size ≤ wa.heap.size := HR.out.1.bel.size
                have HXI := Lib.hid (show ∀ k, Xa k → newX Xa wa (wa.alloc (.cells (madeCells #[.int .i64 0] n) 3)) k from fun k e => .inl e)
                generalize newX Xa wa (wa.alloc (.cells (madeCells #[.int .i64 0] n) 3)) = Xl at *
                have HBA := Lib.hid hba
                have hgl := hg0.lt
                clear hba hPl
                generalize wa.alloc (.cells (madeCells #[.int .i64 0] n) 3) = wl at *
                generalize hg0e : wa.heap.size = g0 at *
                have HGE := Lib.hid hg0e
                rw [nums_zeros, ← wfill_zero n (m : Int)] at hg0
                have HG0 := Lib.hid hg0
                clear t0 hmk hg0 hg0e
                go_loopw [13] (fun i wx => ∃ q : Nat, q ≤ n ∧ i = .int .i64 q ∧ Blk wx g0 3 (nums (wfill n q (m : Int))).toArray ∧ Only (fun j => j = g0) wl wx) (fun i _ => n - (intOf i).toNat)
                case atStart => exact ⟨0, Nat.zero_le _, rfl, HG0.out, onl_refl _ _⟩
                case round =>
                  clear HG0
                  obtain ⟨q, hq, rfl, hBq, hOq⟩ := hrel
                  by_cases hqn : q < n
                  · have ck : wr.cell? ⟨g0, q, none⟩ = some (.int .i64 0) := by
                      rw [hBq.cell q, List.getElem?_toArray]
                      unfold nums
                      rw [List.getElem?_map, wfill_get _ _ _ hqn]
                      rfl
                    have fk := hBq.fr q
                    have hBn := hBq.set q (.int .i64 (1000 * (q : Int) + (m : Int)))
                    rw [nums_set, wfill_set _ _ _ hqn] at hBn
                    have HBN := Lib.hid hBn
                    have HON := Lib.hid (onl_set (S := fun j => j = g0) hOq (p := ⟨g0, q, none⟩) (.inl rfl) (.int .i64 (1000 * (q : Int) + (m : Int))))
                    have b3 : (q : Int) < (n : Int) := by omega
                    have b4 : (0 : Int) ≤ (q : Int) := by omega
                    have b5 : (q : Int) ≤ 4 := by omega
                    clear hBq hOq hBn
                    go_wp2
                    go_round
                    case rel => exact ⟨q + 1, by omega, by go_num, HBN.out, HON.out⟩
                    case measure => simp [intOf]; omega
                  · obtain rfl : n = q := by omega
                    have b3 : ¬ (n : Int) < (n : Int) := by omega
                    have htr := HR.out.2.2.2.2.2
                    have hPx := HWL.out.1.onlX hOq (fun k e => by rw [e]; exact HWL.out.2.2.2) (fun k e => by rw [e]; exact hgW) (fun e => hgp e.symm)
                    have hSx : Stamps wr B0 Xl (.slice As (begun + 1) cs) begun T := HWL.out.2.1.keep (fun g hg => hOq.block g (HWL.out.2.1.o.lt g hg).2 (fun e => by have := htr g hg; omega)) (fun _ e => e)
                    have hTx := blk_onl HWL.out.2.2.1 hOq (show ¬ tb = g0 by omega)
                    have hba := below_alloc (w := wr) (Nat.le_refl _) (.cells #[.int .i64 (k : Int)] 3)
                    have hPk := hPx.grow hba
                    have hSk := hSx.below hba (Y := newX Xl wr (wr.alloc (.cells #[.int .i64 (k : Int)] 3))) (fun k e => .inl e)
                    have hTk := hTx.below hba hTx.lt
                    have hBk := hBq.below hba hBq.lt
                    have hXk : newX Xl wr (wr.alloc (.cells #[.int .i64 (k : Int)] 3)) tb := .inl (HXI.out tb HR.out.2.2.2.1)
                    have htl : tb < (wr.alloc (.cells #[.int .i64 (k : Int)] 3)).heap.size := hTk.lt
                    have hgl2 := hBk.lt
                    have ho : (wr.alloc (.cells #[.int .i64 (k : Int)] 3)).ownsRow B0 3 1 (.slice As m cs) m (nums ((List.range (begun + 1)).map T)) := by rw [HM.out]; exact hSk.o
                    have hB0w : B0 ≤ (wr.alloc (.cells #[.int .i64 (k : Int)] 3)).heap.size := by
                      obtain ⟨g', cap', e', h1, h2, -⟩ := own_pos hSk.o (by omega)
                      omega
                    have hsz : (wr.alloc (.cells #[.int .i64 (k : Int)] 3)).heap.size = wr.heap.size + 1 := by simp
                    obtain ⟨st, hste⟩ : ∃ st, st = (List.range (begun + 1)).map T := ⟨_, rfl⟩
                    rw [← hste] at ho
                    have HSTE := Lib.hid hste
                    clear hste
                    have HALL := Lib.hid (And.intro hPk (And.intro hSk (And.intro hTk (And.intro hBk hXk))))
                    have HOW := Lib.hid ho
                    obtain ⟨i0, hi, hz0, hz1, hz2⟩ := info_parts infoInt
                    clear hBq hOq hPx hSx hTx hba hPk hSk hTk hBk hXk ho HWL
                    go_wp2_with (at_builtin; go_loud (refine wpList_append_lies _ rfl _ _ 29 rfl B0 3 i0 (.int .i64 0) 1 8 Tryd.underlying29 hi hz0 hz1 hz2 rfl (by decide) (.slice As m cs) m (nums st) rfl HOW.out ⟨wr.heap.size, 0, none⟩ 1 1 [.int .i64 (k : Int)] rfl rfl (one_new wr _ _) (by simp [Value.oneCell']) (by omega) (by simp [maxLen]; omega) (by omega) hB0w (wr.alloc (.cells #[.int .i64 (k : Int)] 3)).heap.size rfl ?_))
                    intro g cap w3 hown hg hat hlt3
                    generalize newX Xl wr (wr.alloc (.cells #[.int .i64 (k : Int)] 3)) = Xk at *
                    generalize wr.alloc (.cells #[.int .i64 (k : Int)] 3) = wk at *
                    have hO3 : Only (fun q => (Value.slice As (begun + 1) cs).ownBlock = some q) wk w3 := ⟨hg.os, hg.tape, hg.output, hg.size, fun q hq hn => hg.block q hq (fun e => hn ((ownB As (begun + 1) m cs).trans e.symm))⟩
                    obtain ⟨hPk, hSk, hTk, hBk, hXk⟩ := HALL.out
                    have hP3 := hPk.growO hO3 (fun q e => hSk.x q e) (fun q e => by have := (hSk.o.lt q e).1; omega) (fun e => by have := (hSk.o.lt pb e).1; omega)
                    have hst3 : Stamps w3 B0 (newX Xk wk w3) (.slice (some ⟨g, 0, none⟩) (m + 1) cap) (begun + 1) (fun y => if y = begun + 1 then (k : Int) else T y) := by
                      refine ⟨?_, fun q hq => ?_⟩
                      · rw [stamps_next, ← HSTE.out, ← HM.out]
                        exact hown
                      · simp only [Value.ownBlock, Option.some.injEq] at hq
                        rcases hat with e | e
                        · exact .inl (hSk.x q (by rw [← hq]; exact (ownB As (begun + 1) m cs).trans e))
                        · exact .inr ⟨by omega, by omega⟩
                    have hT3 := hTk.of (hO3.block tb htl (fun e => by have := htr tb e; omega))
                    have hB3 := hBk.of (hO3.block g0 hgl2 (fun e => by have := htr g0 e; omega))
                    have hI3 := ints_blk hB3 (wfill_len n n (m : Int))
                    have hwf : wfill n n (m : Int) = (List.range p.n).map (DW (k : Int) (begun + 1)) := by rw [HFN.out.2, HM.out]; exact wfill_all n (begun + 1) (k : Int)
                    obtain ⟨e1, e2⟩ := qinv_wr HI.out (by omega) HIW.out (wfill n n (m : Int)) hwf (by rw [hwf, HFN.out.2]; exact dw_ok n (begun + 1) _ (by omega) (by omega))
                    have HI2 := Lib.hid (e2 (fun y => if y = begun + 1 then (k : Int) else T y) (fun y hy => if_neg (by omega)) (if_pos rfl))
                    have HW := Lib.hid (sctx_write hP3 hI3 (by rw [wfill_len]; omega) (k : Int))
                    have e3 := congrArg Prod.fst e1
                    have e4 := congrArg Prod.snd e1
                    have hl : (p.wr (wfill n n (m : Int)) k).1.s.left true ≠ 0 ∧ (p.wr (wfill n n (m : Int)) k).1.f = p.f ∧ (p.wr (wfill n n (m : Int)) k).1.n = p.n := by
                      rw [e3]
                      refine ⟨?_, rfl, rfl⟩
                      show p.s.W + 4 ≠ 0
                      omega
                    have HLL := Lib.hid hl
                    have H3 := Lib.hid (And.intro hst3 (And.intro hT3 (show newX Xk wk w3 tb from .inl hXk)))
                    simp only at e4
                    rw [e4] at HW
                    have htp := HR.out.2.2.2.2.1
                    clear e1 e2 e3 e4 hl hwf hI3 hB3 hT3 hst3 hP3 hO3 hPk hSk hTk hBk hXk hown hg hat htr HALL HOW
                    generalize (p.wr (wfill n n (m : Int)) k).1 = p9 at *
                    generalize newX Xk wk w3 = X3 at *
                    go_wp2_with fail
                    refine HW.out.mono ?_
                    rintro e w4 ⟨rfl, h4, k4⟩
                    have HF := Lib.hid (And.intro h4 (And.intro (H3.out.1.kept k4 hpb) (H3.out.2.1.of (k4 tb H3.out.2.2 htp))))
                    clear h4 k4
                    go_wp2_with fail
                    go_meet
                    exact ⟨p9, _, begun + 1, low, X3, rfl, HF.out.1, HI2.out, HLL.out.2.1.trans HFN.out.1, HLL.out.2.2.trans HFN.out.2, HLL.out.1, by have := HF.out.2.1; rw [HM.out] at this ⊢; exact this, HF.out.2.2, H3.out.2.2⟩
              · have bz : ((p.s.iw : Int) == 0) = false := by simp [hiw]
                rw [show p.s.left true = p.s.iw from rfl]
                go_wp2_with fail
                go_meet
                exact ⟨p, T, begun, low, Xa, rfl, HR.out.1, qinv_tick HI.out, HFN.out.1, HFN.out.2, hiw, HR.out.2.1, HR.out.2.2.1, HR.out.2.2.2.1⟩
          case rest =>
            obtain ⟨p1, T1, begun1, low1, X1, rfl, hP1, hI1, hf1, hn1, hl1, hs1, ht1, hx1⟩ := hcut
            obtain ⟨A1, c1, rfl⟩ := own_form hs1.o
            clear HR HI HFN t0
            have htp : tb ≠ pb := HTP.out
            have t0 : wc.cell? ⟨tb, 0, none⟩ = some (.bool x) := (ht1.cell 0).trans rfl
            have HST := Lib.hid (sctx_step hP1 x k)
            have HXP := Lib.hid hP1.xp
            have HS1 := Lib.hid (And.intro hs1 (And.intro ht1 hx1))
            generalize hd : (p1.s.step x).2.2 = de at *
            obtain ⟨d, er⟩ := de
            have HD := Lib.hid hd
            generalize hv : p1.val x k = vv at *
            have HV := Lib.hid hv
            generalize hp2 : p1.stp x = p2 at *
            have HP2 := Lib.hid hp2
            have HI1 := Lib.hid (And.intro hI1 (And.intro hf1 (And.intro hn1 hl1)))
            clear hP1 hd hv hp2 hI1 hf1 hn1 hl1 hs1 ht1 hx1
            go_upto_region 26 with (fail)
            go_cut [14, 15, 16] (fun y1 y2 y3 wx => ∃ y Au cu, y1 = .pointer (some ⟨y, 0, none⟩) ∧ y2 = .bool d ∧ y3 = .int .i64 er ∧ Blk wx y 32 (valC (.slice Au vv.l.length cu) vv) ∧ PCtx W wx pb kb b mb lb X1 p2 ∧ IntsIn wx (.slice Au vv.l.length cu) vv.l ∧ Stamps wx B0 X1 (.slice A1 (begun1 + 1) c1) begun1 T1 ∧ Blk wx tb 72 #[.bool x, .bool false])
            case first =>
              go_wp2_with fail
              refine HST.out.mono ?_
              rintro e w3 ⟨u, rfl, ⟨hP, hK⟩, hw⟩
              obtain ⟨Au, cu, rfl⟩ := hw.1.form
              have hba := below_alloc (w := w3) (Nat.le_refl _) (.cells (valC (.slice Au vv.l.length cu) vv) 32)
              have hs3 := HS1.out.1.kept hK hpb
              have ht3 := HS1.out.2.1.of (hK tb HS1.out.2.2 htp)
              have HR := Lib.hid (And.intro (Blk.new w3 32 (valC (.slice Au vv.l.length cu) vv)) (And.intro ((hP.less (Y := X1) (fun k e => .inl e) HXP.out).below hba) (And.intro (hw.1.below hba) (And.intro (hs3.below hba (Y := X1) (fun _ e => e)) (ht3.below hba ht3.lt)))))
              clear hP hw hba HST hK hs3 ht3 t0
              unfold valC at HR ⊢
              go_wp2_with fail
              go_meet
              exact ⟨_, _, _, rfl, rfl, rfl, HR.out⟩
            case rest =>
              obtain ⟨y, Au, cu, rfl, rfl, rfl, hyb, hP, hIv, hs, ht⟩ := hcut
              clear t0 HST HS1
              have t0 : wc.cell? ⟨tb, 0, none⟩ = some (.bool x) := (ht.cell 0).trans rfl
              obtain ⟨hI1, hf1, hn1, hl1⟩ := HI1.out
              cases x
              · obtain ⟨q1, q2, q3⟩ := qinv_stepR hI1 hl1 k
                rw [HD.out] at q1
                obtain ⟨rfl, rfl⟩ : d = decide (p1.s.ow = 1) ∧ er = 0 := by injection q1 with a1 a2; exact ⟨a1, a2⟩
                rw [HP2.out] at q2 q3
                rw [HV.out] at q3
                have hf2 : p2.f = 20 ∧ p2.n = n := by rw [← HP2.out]; exact ⟨hf1, hn1⟩
                have HF2 := Lib.hid hf2
                have HP := Lib.hid hP
                have HSS := Lib.hid hs
                by_cases how : p1.s.ow = 1
                · obtain ⟨vo, q4, q5, q6, -, q8⟩ := q3 how
                  have htt := hI1.t vo q6
                  have hbb := hI1.b
                  rw [decide_eq_true how]
                  have HQ2 := Lib.hid q2
                  by_cases h0 : vo = 0
                  · rw [if_pos h0] at q4
                    subst q4
                    obtain rfl : low1 = 0 := by omega
                    have y0 : wc.cell? ⟨y, 0, none⟩ = some (.slice Au 0 cu) := (hyb.cell 0).trans rfl
                    have y1 : wc.cell? ⟨y, 1, none⟩ = some (.int .i64 0) := (hyb.cell 1).trans rfl
                    have y2 : wc.cell? ⟨y, 2, none⟩ = some (.int .i64 0) := (hyb.cell 2).trans rfl
                    have y3 : wc.cell? ⟨y, 3, none⟩ = some (.bool false) := (hyb.cell 3).trans rfl
                    have y4 : wc.cell? ⟨y, 4, none⟩ = some (.bool false) := (hyb.cell 4).trans rfl
                    have c1 : decide ((begun1 : Int) + 1 ≤ 0) = false := decide_eq_false (by omega)
                    have c2 : ¬ (begun1 : Int) + 1 ≤ 0 := by omega
                    have c3 : ((0 : Int) == (n : Int)) = false := by simp; omega
                    have c4 : ¬ (0 : Int) = (n : Int) := by omega
                    subst h0
                    clear q1 q2 q3 q5 q6 q8 hyb hIv hP hs ht htt hbb hI1 hf1 hn1 hl1 how HV HD HP2 HI1 hf2
                    go_wp2
                    go_quiet (fail)
                    go_wp2_with fail
                    refine wp_loop_rounds 1 ?_
                    rw [rounds_succ]
                    go_wp2
                    go_round
                    case rel => exact ⟨k + 1, p2, T1, begun1, over, 0, X1, by omega, by omega, by go_num, rfl, rfl, HP.out.below (below_drewN' _ _), HQ2.out, HF2.out.1, HF2.out.2, HSS.out.below (below_drewN' _ _) (fun _ e => e)⟩
                    case measure => simp [intOf]; omega
                  · rw [if_neg h0, hn1, hf1] at q4
                    obtain ⟨t, hte⟩ : ∃ t, t = T1 vo := ⟨_, rfl⟩
                    rw [← hte] at q4 htt
                    subst q4
                    have hag : ageI (k : Int) t ≤ 20 ↔ (k : Int) - t ≤ 20 := by unfold ageI cut; omega
                    have hlw : ((List.range n).map (DW t vo)).length = n := by simp
                    obtain ⟨A', c', e, -, hc⟩ := hIv
                    obtain ⟨g, o, rfl, hcell⟩ := hc (by rw [hlw]; omega)
                    have HC := Lib.hid (show ∀ r, r < n → wc.cell? ⟨g, o + r, none⟩ = some (.int .i64 (1000 * (r : Int) + (vo : Int))) from fun r hr => by
                      rw [hcell r (by rw [hlw]; exact hr)]
                      simp [DW])
                    injection e with a1 a2 a3
                    subst a1
                    obtain ⟨gs, caps, e, -, -, -, hsc, -⟩ := own_pos hs.o (by omega)
                    injection e with a4 a5 a6
                    subst a4
                    have z0 : wc.cell? ⟨gs, vo, none⟩ = some (.int .i64 t) := by
                      rw [hsc vo (by omega), hte]
                      simp [nums, show vo < begun1 + 1 by omega]
                    have y0 : wc.cell? ⟨y, 0, none⟩ = some (.slice (some ⟨g, o, none⟩) n cu) := (hyb.cell 0).trans (congrArg (fun z => some (Value.slice (some ⟨g, o, none⟩) z cu)) hlw)
                    have y1 : wc.cell? ⟨y, 1, none⟩ = some (.int .i64 vo) := (hyb.cell 1).trans rfl
                    have y2 : wc.cell? ⟨y, 2, none⟩ = some (.int .i64 t) := (hyb.cell 2).trans rfl
                    have y3 : wc.cell? ⟨y, 3, none⟩ = some (.bool true) := (hyb.cell 3).trans rfl
                    obtain ⟨f1, f2, f3, f4, f5, f6, f7, d1, d2, d3⟩ := dec_facts vo low1 begun1 h0 q5 q6
                    obtain ⟨t0', t1'⟩ := htt
                    have t2' : t ≤ 301 := by omega
                    have vo4 : (vo : Int) ≤ 400 := by omega
                    have hw : IntKind.i64.wrap ((k : Int) - t) = (k : Int) - t := by rw [IntKind.wrap_i64]; omega
                    have HTE := Lib.hid hte
                    have HC2 := Lib.hid (And.intro hyb (And.intro hP hs))
                    clear hc hcell a2 a3 a5 a6 hte hsc hlw
                    by_cases hqv : (k : Int) - t ≤ 20
                    · have b7 : decide ((k : Int) - t ≤ 20) = true := decide_eq_true hqv
                      have y4 : wc.cell? ⟨y, 4, none⟩ = some (.bool true) := (hyb.cell 4).trans (by rw [decide_eq_true (hag.2 hqv)]; rfl)
                      clear q1 q2 q3 q5 q6 q8 hyb hP hs ht hI1 hf1 hn1 hl1 how HV HD HP2 HI1 hf2 hag hbb
                      go_wp2
                      go_quiet (fail)
                      have z0' : (wc.drewN nq).cell? ⟨y, 0, none⟩ = some (.slice (some ⟨g, o, none⟩) n cu) := y0
                      have z1' : (wc.drewN nq).cell? ⟨y, 1, none⟩ = some (.int .i64 vo) := y1
                      have HC3 := Lib.hid (show ∀ r, r < n → (wc.drewN nq).cell? ⟨g, o + r, none⟩ = some (.int .i64 (1000 * (r : Int) + (vo : Int))) from fun r hr => HC.out r hr)
                      have HPD := Lib.hid (HP.out.below (below_drewN' wc nq))
                      have HSD := Lib.hid (HSS.out.below (below_drewN' wc nq) (Y := X1) (fun _ e => e))
                      clear y0 y1 y2 y3 y4 z0 HC HC2 HP HSS
                      generalize wc.drewN nq = wd at *
                      go_wp2_with fail
                      go_loopw [17] (fun i wx => ∃ (q : Nat), q ≤ n ∧ i = .int .i64 q ∧ PCtx W wx pb kb b mb lb X1 p2 ∧ Stamps wx B0 X1 (.slice (some ⟨gs, 0, none⟩) (begun1 + 1) c1) begun1 T1 ∧ wx.cell? ⟨y, 0, none⟩ = some (.slice (some ⟨g, o, none⟩) n cu) ∧ wx.cell? ⟨y, 1, none⟩ = some (.int .i64 vo) ∧ ∀ r, r < n → wx.cell? ⟨g, o + r, none⟩ = some (.int .i64 (1000 * (r : Int) + (vo : Int)))) (fun i _ => n - (intOf i).toNat)
                      case atStart => exact ⟨0, Nat.zero_le _, rfl, HPD.out, HSD.out, z0', z1', HC3.out⟩
                      case round =>
                        clear HC3 HPD HSD z0' z1'
                        obtain ⟨q, hq, rfl, hPq, hSq, y0, y1, hcs⟩ := hrel
                        have HPQ := Lib.hid (And.intro hPq (And.intro hSq hcs))
                        by_cases hqn : q < n
                        · have ck := hcs q hqn
                          have b3 : (q : Int) < (n : Int) := by omega
                          have b4 : (0 : Int) ≤ (q : Int) := by omega
                          have b5 : (q : Int) ≤ 4 := by omega
                          have hw1 : IntKind.i64.wrap (1000 * (q : Int)) = 1000 * (q : Int) := by rw [IntKind.wrap_i64]; omega
                          have hw2 : IntKind.i64.wrap (1000 * (q : Int) + (vo : Int)) = 1000 * (q : Int) + (vo : Int) := by rw [IntKind.wrap_i64]; omega
                          clear hPq hSq hcs
                          go_wp2
                          go_quiet (fail)
                          go_wp2
                          go_round
                          case rel => exact ⟨q + 1, by omega, by go_num, HPQ.out.1.below (below_drewN' _ _), HPQ.out.2.1.below (below_drewN' _ _) (fun _ e => e), y0, y1, HPQ.out.2.2⟩
                          case measure => simp [intOf]; omega
                        · obtain rfl : n = q := by omega
                          have b3 : ¬ (n : Int) < (n : Int) := by omega
                          clear hPq hSq hcs
                          go_wp2
                          go_round
                          case rel => exact ⟨k + 1, p2, T1, begun1, over, low1, X1, by omega, by omega, by go_num, rfl, rfl, HPQ.out.1, HQ2.out, HF2.out.1, HF2.out.2, HPQ.out.2.1⟩
                          case measure => simp [intOf]; omega
                    · have b7 : decide ((k : Int) - t ≤ 20) = false := decide_eq_false hqv
                      have y4 : wc.cell? ⟨y, 4, none⟩ = some (.bool false) := (hyb.cell 4).trans (by rw [decide_eq_false (fun e => hqv (hag.1 e))]; rfl)
                      clear q1 q2 q3 q5 q6 q8 hyb hP hs ht hI1 hf1 hn1 hl1 how HV HD HP2 HI1 hf2 hag hbb
                      go_wp2
                      go_quiet (fail)
                      have z0' : (wc.drewN nq).cell? ⟨y, 0, none⟩ = some (.slice (some ⟨g, o, none⟩) n cu) := y0
                      have z1' : (wc.drewN nq).cell? ⟨y, 1, none⟩ = some (.int .i64 vo) := y1
                      have HC3 := Lib.hid (show ∀ r, r < n → (wc.drewN nq).cell? ⟨g, o + r, none⟩ = some (.int .i64 (1000 * (r : Int) + (vo : Int))) from fun r hr => HC.out r hr)
                      have HPD := Lib.hid (HP.out.below (below_drewN' wc nq))
                      have HSD := Lib.hid (HSS.out.below (below_drewN' wc nq) (Y := X1) (fun _ e => e))
                      clear y0 y1 y2 y3 y4 z0 HC HC2 HP HSS
                      generalize wc.drewN nq = wd at *
                      go_wp2_with fail
                      go_loopw [17] (fun i wx => ∃ (q : Nat), q ≤ n ∧ i = .int .i64 q ∧ PCtx W wx pb kb b mb lb X1 p2 ∧ Stamps wx B0 X1 (.slice (some ⟨gs, 0, none⟩) (begun1 + 1) c1) begun1 T1 ∧ wx.cell? ⟨y, 0, none⟩ = some (.slice (some ⟨g, o, none⟩) n cu) ∧ wx.cell? ⟨y, 1, none⟩ = some (.int .i64 vo) ∧ ∀ r, r < n → wx.cell? ⟨g, o + r, none⟩ = some (.int .i64 (1000 * (r : Int) + (vo : Int)))) (fun i _ => n - (intOf i).toNat)
                      case atStart => exact ⟨0, Nat.zero_le _, rfl, HPD.out, HSD.out, z0', z1', HC3.out⟩
                      case round =>
                        clear HC3 HPD HSD z0' z1'
                        obtain ⟨q, hq, rfl, hPq, hSq, y0, y1, hcs⟩ := hrel
                        have HPQ := Lib.hid (And.intro hPq (And.intro hSq hcs))
                        by_cases hqn : q < n
                        · have ck := hcs q hqn
                          have b3 : (q : Int) < (n : Int) := by omega
                          have b4 : (0 : Int) ≤ (q : Int) := by omega
                          have b5 : (q : Int) ≤ 4 := by omega
                          have hw1 : IntKind.i64.wrap (1000 * (q : Int)) = 1000 * (q : Int) := by rw [IntKind.wrap_i64]; omega
                          have hw2 : IntKind.i64.wrap (1000 * (q : Int) + (vo : Int)) = 1000 * (q : Int) + (vo : Int) := by rw [IntKind.wrap_i64]; omega
                          clear hPq hSq hcs
                          go_wp2
                          go_quiet (fail)
                          go_wp2
                          go_round
                          case rel => exact ⟨q + 1, by omega, by go_num, HPQ.out.1.below (below_drewN' _ _), HPQ.out.2.1.below (below_drewN' _ _) (fun _ e => e), y0, y1, HPQ.out.2.2⟩
                          case measure => simp [intOf]; omega
                        · obtain rfl : n = q := by omega
                          have b3 : ¬ (n : Int) < (n : Int) := by omega
                          clear hPq hSq hcs
                          go_wp2
                          go_round
                          case rel => exact ⟨k + 1, p2, T1, begun1, over, low1, X1, by omega, by omega, by go_num, rfl, rfl, HPQ.out.1, HQ2.out, HF2.out.1, HF2.out.2, HPQ.out.2.1⟩
                          case measure => simp [intOf]; omega
                · rw [decide_eq_false how]
                  have HQ := Lib.hid q2
                  clear q1 q2 q3 hyb hIv hP hs ht hI1 hf1 hn1 hl1 how HV HD HP2 HI1 hf2
                  go_wp2
                  go_round
                  case rel => exact ⟨k + 1, p2, T1, begun1, over, low1, X1, by omega, by omega, by go_num, rfl, rfl, HP.out, HQ.out, HF2.out.1, HF2.out.2, HSS.out⟩
                  case measure => simp [intOf]; omega
              · obtain ⟨q1, q2⟩ := qinv_stepW hI1 hl1
                rw [HD.out] at q1
                obtain ⟨rfl, rfl⟩ : d = decide (p1.s.iw = 1) ∧ er = 0 := by injection q1 with a1 a2; exact ⟨a1, a2⟩
                rw [HP2.out] at q2
                have hf2 : p2.f = 20 ∧ p2.n = n := by rw [← HP2.out]; exact ⟨hf1, hn1⟩
                have HF2 := Lib.hid hf2
                have HP := Lib.hid hP
                have HSS := Lib.hid hs
                have hq := q2.q
                have HSQ := Lib.hid (sctx_seq hP)
                rw [hq] at HSQ
                by_cases hiw : p1.s.iw = 1
                · rw [decide_eq_true hiw]
                  rw [if_pos hiw] at q2
                  have HQ := Lib.hid q2
                  clear q1 q2 hyb hIv hP hs ht hI1 hf1 hn1 hl1 hiw HV HD HP2 HI1 hf2 hq
                  go_wp2_with fail
                  refine HSQ.out.mono ?_
                  rintro e w3 ⟨rfl, rfl⟩
                  go_wp2
                  go_round
                  case rel => exact ⟨k + 1, p2, T1, begun1, begun1, low1, X1, by omega, by omega, by go_num, rfl, rfl, HP.out, HQ.out, HF2.out.1, HF2.out.2, HSS.out⟩
                  case measure => simp [intOf]; omega
                · rw [decide_eq_false hiw]
                  rw [if_neg hiw] at q2
                  have HQ := Lib.hid q2
                  clear q1 q2 hyb hIv hP hs ht hI1 hf1 hn1 hl1 hiw HV HD HP2 HI1 hf2 hq
                  go_wp2
                  go_round
                  case rel => exact ⟨k + 1, p2, T1, begun1, over, low1, X1, by omega, by omega, by go_num, rfl, rfl, HP.out, HQ.out, HF2.out.1, HF2.out.2, HSS.out⟩
                  case measure => simp [intOf]; omega
        · have hba := below_alloc (w := wr) (Nat.le_refl _) (.cells #[.bool x, .bool true] 72)
          have HD := Lib.hid (sctx_drop (hP.below hba) x)
          have HST1 := Lib.hid (hst.below hba (Y := X) (fun _ e => e))
          clear hP hst hba
          go_wp2_with fail
          refine HD.out.mono ?_
          rintro e w3 ⟨rfl, h3, k3⟩
          have HST2 := Lib.hid (HST1.out.kept k3 hpb)
          have HP2 := Lib.hid h3
          clear h3 k3 HD HST1 s0 s1
          generalize decide (0 < p.s.left x) = dd at *
          go_wp2
          go_round
          case rel => exact ⟨k + 1, _, T, begun, over, low, X, by omega, by omega, by go_num, rfl, rfl, HP2.out, qinv_tick (qinv_drp HI.out x), HFN.out.1, HFN.out.2, HST2.out⟩
          case measure => simp [intOf]; omega
      · have hq := hI.q
        have HBF := Lib.hid (HB.out.trans (hP.bel.mono HB.out.size))
        have HSQ := Lib.hid (sctx_seq hP)
        rw [hq] at HSQ
        clear hP hI hq hf hn hst
        by_cases h1 : k < len
        · obtain rfl : k = 300 := by omega
          have b1 : ((300 : Nat) : Int) < (len : Int) := by omega
          clear hlt
          go_wp2_with fail
          refine HSQ.out.mono ?_
          rintro e w3 ⟨rfl, rfl⟩
          go_wp2
          go_ret
          exact ⟨by first | rfl | simp, HBF.out⟩
        · obtain rfl : k = len := by omega
          clear hlt
          go_wp2_with fail
          refine HSQ.out.mono ?_
          rintro e w3 ⟨rfl, rfl⟩
          go_wp2
          go_ret
          exact ⟨by first | rfl | simp, HBF.out⟩
end Go.Proofs.YtmcelldklmjlkaaDoor
