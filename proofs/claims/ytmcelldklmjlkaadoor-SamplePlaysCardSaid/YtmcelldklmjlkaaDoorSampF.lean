/- A sampling port: all accesses at a tick; lives. -/
import Derived.Test.YtmcelldklmjlkaaDoorSampC
import Derived.Test.YtmcelldklmjlkaaDoorSampD
import Derived.Deep.CutBlock
import Derived.Deep.DeepCutAuto
namespace Go.Proofs.YtmcelldklmjlkaaDoor
open Go.RowKit

section
variable {W w : World} {pb kb b mb lb : Nat} {X : Nat → Prop} {p : SP}
theorem WordsAt.ge {B B' : Nat} {w : World} {v : Value} {x : SV} (h : WordsAt B w v x) (hb : B' ≤ B) : WordsAt B' w v x := ⟨h.1, fun g hg => ⟨Nat.le_trans hb (h.2 g hg).1, (h.2 g hg).2⟩⟩
/-- A value, stored into the result's block. -/
def put5 (w4 : World) (r : Nat) (u : Value) (c : SV) : World := (((((w4.setCell ⟨r, 0, none⟩ u).setCell ⟨r, 1, none⟩ (.int .i64 c.q)).setCell ⟨r, 2, none⟩ (.int .i64 c.t)).setCell ⟨r, 3, none⟩ (.bool c.h)).setCell ⟨r, 4, none⟩ (.bool c.v))
theorem put5_only (w4 : World) (r : Nat) (u : Value) (c : SV) : Only (fun k => k = r) w4 (put5 w4 r u c) :=
  onl_set (S := fun k => k = r) (onl_set (S := fun k => k = r) (onl_set (S := fun k => k = r) (onl_set (S := fun k => k = r) (onl_set (S := fun k => k = r) (onl_refl _ w4) (p := ⟨r, 0, none⟩) (.inl rfl) _) (p := ⟨r, 1, none⟩) (.inl rfl) _) (p := ⟨r, 2, none⟩) (.inl rfl) _) (p := ⟨r, 3, none⟩) (.inl rfl) _) (p := ⟨r, 4, none⟩) (.inl rfl) _
structure Fin5 (W w wf : World) (pb kb b mb lb r : Nat) (X : Nat → Prop) (q : SP) (u : Value) (c : SV) : Prop where
  bk : Blk wf r 32 (valC u c)
  pc : PCtx W wf pb kb b mb lb (fun k => X k ∨ u.ownBlock = some k) q
  kp : PKept pb X w wf
  wd : WordsAt r wf u c
theorem put5_any {w4 : World} {r : Nat} {u : Value} {c : SV} {v0 v1 v2 v3 v4 : Value} {Y : Nat → Prop} {q : SP} (hp : PCtx W w4 pb kb b mb lb Y q) (hk : PKept pb X w w4) (hb : Blk w4 r 32 #[v0, v1, v2, v3, v4]) (hu : IntsIn w4 u c.l) (hg : ∀ g, u.ownBlock = some g → r < g ∧ g < w4.heap.size)
    (hY : Y r ∧ ∀ k, X k ∨ u.ownBlock = some k → Y k) (hX : X pb ∧ ∀ k, X k → k ≠ r) (hW : W.heap.size ≤ r) : Fin5 W w (put5 w4 r u c) pb kb b mb lb r X q u c := by
  have hO := put5_only w4 r u c
  refine ⟨((((hb.set 0 u).set 1 _).set 2 _).set 3 _).set 4 _, ?_, fun k hkx hn => ?_, words_onl hu (fun g hg' e => by have := (hg g hg').1; omega) hO, fun g hg' => ⟨Nat.le_of_lt (hg g hg').1, Nat.lt_of_lt_of_le (hg g hg').2 hO.size⟩⟩
  · exact (hp.onlX hO (fun k e => by rw [e]; exact hY.1) (fun k e => by rw [e]; exact hW) (fun e => hX.2 pb hX.1 e)).less hY.2 (.inl hX.1)
  · exact (hO.block k (hp.c.lt k (hY.2 k (.inl hkx))) (hX.2 k hkx)).trans (hk k hkx hn)
theorem Fin5.below {w4 wf : World} {r : Nat} {u : Value} {c : SV} {q : SP} (h : Fin5 W w w4 pb kb b mb lb r X q u c) (hb : Below w4.heap.size w4 wf) : Fin5 W w wf pb kb b mb lb r X q u c :=
  ⟨h.bk.below hb h.bk.lt, h.pc.below hb, fun k hk hn => (hb.block k (h.pc.c.lt k (.inl hk))).trans (h.kp k hk hn), h.wd.below hb⟩
set_option maxRecDepth 100000 in
set_option maxHeartbeats 3200000 in
theorem sctx_all (h : PCtx W w pb kb b mb lb X p) (x : Bool) (now : Int) :
    Calls Tryd.prog 14 #[.pointer (some ⟨pb, 0, none⟩), .bool x, .int .i64 now] w fun e w' => ∃ u, e = .returned (.tuple #[.agg (valC u (p.all x now 20).2.1), .bool (p.all x now 20).2.2]) ∧ (PCtx W w' pb kb b mb lb (fun k => X k ∨ u.ownBlock = some k) (p.all x now 20).1 ∧ PKept pb X w w') ∧ WordsAt w.heap.size w' u (p.all x now 20).2.1 := by
  have hbz := below_alloc (w := w) (Nat.le_refl _) (.cells (valC (.slice none 0 0) SV.none) 32)
  have hz0 := Blk.new w 32 (valC (.slice none 0 0) SV.none)
  have hXl := h.c.lt
  have hrl := hz0.lt
  obtain ⟨wz, hwz⟩ : ∃ wz, wz = w.alloc (.cells (valC (.slice none 0 0) SV.none) 32) := ⟨_, rfl⟩
  rw [← hwz] at hbz hz0 hrl
  have h1 := h.grow hbz
  have hX0 : newX X w wz w.heap.size := .inr ⟨Nat.le_refl _, hrl⟩
  have hXi : ∀ k, X k → newX X w wz k := fun k e => .inl e
  have HK0 := Lib.hid (show PKept pb X w wz from fun k hk _ => hbz.block k (hXl k hk))
  have HX := Lib.hid (And.intro hX0 hXi)
  have HX2 := Lib.hid (And.intro h.xp (show ∀ k, X k → k ≠ w.heap.size from fun k e => by have := hXl k e; omega))
  have HH := Lib.hid h1
  have HZ := Lib.hid hz0
  have hWw := h.c.bel.size
  have HWZ := Lib.hid hwz
  generalize newX X w wz = Y at *
  clear h h1 hbz hz0 hXl hX0 hXi hwz
  obtain ⟨sv, hsv⟩ : ∃ sv, sv = p.all x now 20 := ⟨_, rfl⟩
  rw [← hsv]
  have HSV := Lib.hid hsv
  clear hsv
  unfold valC SV.none at HWZ HZ
  go_enter Tryd.func14, Tryd.ntmps14
  go_wp2
  rw [← HWZ.out]
  go_loopw [8] (fun i wr => ∃ (k : Nat) (q : SP), k ≤ 20 ∧ i = .int .i64 k ∧ PCtx W wr pb kb b mb lb Y q ∧ q.all x now (20 - k) = sv ∧ Blk wr w.heap.size 32 #[.slice none 0 0, .int .i64 0, .int .i64 0, .bool false, .bool false] ∧ PKept pb X w wr) (fun i _ => 20 - (intOf i).toNat)
  case atStart => exact ⟨0, p, Nat.zero_le _, rfl, HH.out, HSV.out.symm, HZ.out, HK0.out⟩
  case round =>
    obtain ⟨k, q, hk, rfl, hP, hq, hb, hK⟩ := hrel
    clear HH HZ HK0 HSV
    by_cases hlt : k < 20
    · have b1 : (k : Int) < 20 := by omega
      have HQ := Lib.hid (show (if (q.s.step x).2.2.1 = true ∨ (q.s.step x).2.2.2 ≠ 0 then (q.stp x, q.val x now, (q.s.step x).2.2.1) else (q.stp x).all x now (20 - (k + 1))) = sv from by
        rw [← hq, show 20 - k = (20 - (k + 1)) + 1 by omega]
        rfl)
      have HST := Lib.hid (sctx_step hP x now)
      have HY := Lib.hid hP.c.lt
      have HB := Lib.hid hb
      have HK := Lib.hid hK
      clear hP hq hb hK
      generalize q.stp x = q1 at *
      generalize q.val x now = vv at *
      generalize (q.s.step x).2.2.1 = d at *
      generalize (q.s.step x).2.2.2 = er at *
      have hrY := HY.out _ HX.out.1
      go_upto_region 4 with (fail)
      go_cut [9, 10, 11] (fun y1 y2 y3 wx => ∃ y Au cu, y1 = .pointer (some ⟨y, 0, none⟩) ∧ y2 = .bool d ∧ y3 = .int .i64 er ∧ w.heap.size ≠ y ∧ Blk wx y 32 (valC (.slice Au vv.l.length cu) vv) ∧ Blk wx w.heap.size 32 #[.slice none 0 0, .int .i64 0, .int .i64 0, .bool false, .bool false] ∧ PCtx W wx pb kb b mb lb (fun k => Y k ∨ (Value.slice Au vv.l.length cu).ownBlock = some k) q1 ∧ PKept pb X w wx ∧ WordsAt wr.heap.size wx (.slice Au vv.l.length cu) vv)
      case first =>
        go_wp2_with fail
        refine HST.out.mono ?_
        rintro e w3 ⟨u, rfl, ⟨hP, hK⟩, hw⟩
        obtain ⟨Au, cu, rfl⟩ := hw.1.form
        have hz3 := HB.out.of (hK _ HX.out.1 (Ne.symm (HX2.out.2 pb HX2.out.1)))
        have hPK : PKept pb X w w3 := HK.out.trans (fun k hk hn => hK k (HX.out.2 k hk) hn)
        have hba := below_alloc (w := w3) (Nat.le_refl _) (.cells (valC (.slice Au vv.l.length cu) vv) 32)
        have hne : w.heap.size ≠ w3.heap.size := by have := hz3.lt; omega
        have HR := Lib.hid (And.intro hne (And.intro (Blk.new w3 32 (valC (.slice Au vv.l.length cu) vv)) (And.intro (hz3.below hba hz3.lt) (And.intro (hP.below hba) (And.intro (show PKept pb X w _ from hPK.trans (fun k hk _ => hba.block k (hP.c.lt k (.inl (HX.out.2 k hk))))) (hw.below hba))))))
        clear hP hK hw hz3 hPK hba hne HB HK HST HY
        unfold valC at HR ⊢
        go_wp2_with fail
        go_meet
        exact ⟨_, _, _, rfl, rfl, rfl, HR.out⟩
      case rest =>
        obtain ⟨y, Au, cu, rfl, rfl, rfl, hry, hyb, hz3, hP, hPK, hw⟩ := hcut
        clear HB HK HST HY
        have hF := put5_any hP hPK hz3 hw.1 (fun g hg => ⟨by have := (hw.2 g hg).1; omega, (hw.2 g hg).2⟩) ⟨.inl HX.out.1, fun k e => e.elim (fun e => .inl (HX.out.2 k e)) .inr⟩ HX2.out hWw
        have HF := Lib.hid hF
        have HP := Lib.hid (hP.less (Y := Y) (fun k e => .inl e) (HX.out.2 pb HX2.out.1))
        have HPK := Lib.hid hPK
        have HZ3 := Lib.hid hz3
        obtain ⟨vl, vq, vt, vh, vx⟩ := vv
        simp only [put5] at HF
        have y0 : wc.cell? ⟨y, 0, none⟩ = some (.slice Au vl.length cu) := (hyb.cell 0).trans rfl
        have y1 : wc.cell? ⟨y, 1, none⟩ = some (.int .i64 vq) := (hyb.cell 1).trans rfl
        have y2 : wc.cell? ⟨y, 2, none⟩ = some (.int .i64 vt) := (hyb.cell 2).trans rfl
        have y3 : wc.cell? ⟨y, 3, none⟩ = some (.bool vh) := (hyb.cell 3).trans rfl
        have y4 : wc.cell? ⟨y, 4, none⟩ = some (.bool vx) := (hyb.cell 4).trans rfl
        have r0 : wc.cell? ⟨w.heap.size, 0, none⟩ = some (.slice none 0 0) := (hz3.cell 0).trans rfl
        have r1 : wc.cell? ⟨w.heap.size, 1, none⟩ = some (.int .i64 0) := (hz3.cell 1).trans rfl
        have r2 : wc.cell? ⟨w.heap.size, 2, none⟩ = some (.int .i64 0) := (hz3.cell 2).trans rfl
        have r3 : wc.cell? ⟨w.heap.size, 3, none⟩ = some (.bool false) := (hz3.cell 3).trans rfl
        have r4 : wc.cell? ⟨w.heap.size, 4, none⟩ = some (.bool false) := (hz3.cell 4).trans rfl
        have f0 := hz3.fr 0
        have f1 := hz3.fr 1
        have f2 := hz3.fr 2
        have f3 := hz3.fr 3
        have f4 := hz3.fr 4
        clear hP hw hz3 hPK hF hyb
        by_cases hd : d = true ∨ er ≠ 0
        · have hs := HQ.out
          rw [if_pos hd] at hs
          subst hs
          have hcs : d = true ∨ (d = false ∧ (er == 0) = false) := by
            rcases hd with h | h
            · exact .inl h
            · cases d
              · exact .inr ⟨rfl, by simpa using h⟩
              · exact .inl rfl
          clear hd HQ
          rcases hcs with rfl | ⟨rfl, he⟩
          all_goals
            go_wp2
            refine bodyPost_ret (res_c2 rfl _ rfl HF.out.bk Tryd.underlying32 rfl vinfo) rfl ⟨_, rfl, ⟨HF.out.pc, HF.out.kp⟩, HF.out.wd⟩
        · have hs := HQ.out
          rw [if_neg hd] at hs
          have HS := Lib.hid hs
          obtain ⟨rfl, rfl⟩ : d = false ∧ er = 0 := by
            constructor
            · cases d
              · rfl
              · exact absurd (.inl rfl) hd
            · exact Decidable.byContradiction fun e => hd (.inr e)
          clear hs hd HQ HF
          go_wp2
          go_roundw
          case rel => exact ⟨k + 1, q1, by omega, by go_num, HP.out, HS.out, HZ3.out, HPK.out⟩
          case measure => simp [intOf]; omega
    · obtain rfl : k = 20 := by omega
      have hF := put5_any (u := .slice none 0 0) (c := SV.none) hP hK hb (IntsIn.nil _) (fun g hg => by simp [Value.ownBlock] at hg) ⟨HX.out.1, fun k e => e.elim (HX.out.2 k) (fun e => by simp [Value.ownBlock] at e)⟩ HX2.out hWw
      have HF := Lib.hid hF
      have hs : (q, SV.none, false) = sv := hq
      subst hs
      have r0 : wr.cell? ⟨w.heap.size, 0, none⟩ = some (.slice none 0 0) := (hb.cell 0).trans rfl
      have r1 : wr.cell? ⟨w.heap.size, 1, none⟩ = some (.int .i64 0) := (hb.cell 1).trans rfl
      have r2 : wr.cell? ⟨w.heap.size, 2, none⟩ = some (.int .i64 0) := (hb.cell 2).trans rfl
      have r3 : wr.cell? ⟨w.heap.size, 3, none⟩ = some (.bool false) := (hb.cell 3).trans rfl
      have r4 : wr.cell? ⟨w.heap.size, 4, none⟩ = some (.bool false) := (hb.cell 4).trans rfl
      have f0 := hb.fr 0
      have f1 := hb.fr 1
      have f2 := hb.fr 2
      have f3 := hb.fr 3
      have f4 := hb.fr 4
      simp only [put5, SV.none] at HF
      clear hF hP hK hb hq hlt
      go_wp2
      refine bodyPost_ret (res_c2 rfl _ rfl HF.out.bk Tryd.underlying32 rfl vinfo) rfl ⟨_, rfl, ⟨HF.out.pc, HF.out.kp⟩, HF.out.wd⟩
end
end Go.Proofs.YtmcelldklmjlkaaDoor
