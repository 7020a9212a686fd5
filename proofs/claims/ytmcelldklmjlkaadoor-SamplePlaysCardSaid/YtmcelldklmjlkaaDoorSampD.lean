/- A sampling port: Step. -/
import Derived.Test.YtmcelldklmjlkaaDoorSampB
namespace Go.Proofs.YtmcelldklmjlkaaDoor
open Go.RowKit

theorem words_onl {S : Nat → Prop} {w w' : World} {u : Value} {l : List Int} (h : IntsIn w u l) (hg : ∀ g, u.ownBlock = some g → ¬ S g) (hO : Only S w w') : IntsIn w' u l := by
  obtain ⟨A, c, rfl, hl, k⟩ := h
  refine ⟨A, c, rfl, hl, fun hp => ?_⟩
  obtain ⟨g, o, rfl, d⟩ := k hp
  exact ⟨g, o, rfl, fun i hi => cell_onl (d i hi) hO (hg g rfl)⟩
theorem Ctx.less {W w : World} {b mb lb : Nat} {X Y : Nat → Prop} {s : FS} (h : Ctx W w b mb lb X s) (hX : ∀ k, Y k → X k) : Ctx W w b mb lb Y s := by
  obtain ⟨Z, vl, vi, vr, vo, c, hF, hL, hR⟩ := h.at_
  exact ⟨⟨Z, vl, vi, vr, vo, c, ⟨hF.r, hF.m, hF.il, hF.ol, fun g hg => ⟨(hF.so g hg).1, (hF.so g hg).2.1, fun e => (hF.so g hg).2.2 (hX g e)⟩, fun k e => ⟨(hF.z k e).1, (hF.z k e).2.1, fun f => (hF.z k e).2.2 (hX k f)⟩, fun k e => hF.x k (hX k e)⟩, hL, hR⟩, h.ok, h.bel, h.gb, h.gm, h.gl⟩
theorem PCtx.less {W w : World} {pb kb b mb lb : Nat} {X Y : Nat → Prop} {p : SP} (h : PCtx W w pb kb b mb lb X p) (hX : ∀ k, Y k → X k) (hp : Y pb) : PCtx W w pb kb b mb lb Y p :=
  ⟨h.c.less hX, h.k, h.f, hp, h.gp, h.ok⟩
theorem valL (x : SV) : (valC (.slice none 0 0) x).size = 5 := rfl
section
variable {W w : World} {pb kb b mb lb : Nat} {X : Nat → Prop} {p : SP}
set_option maxRecDepth 100000 in
set_option maxHeartbeats 3200000 in
theorem sctx_step (h : PCtx W w pb kb b mb lb X p) (x : Bool) (now : Int) :
    Calls Tryd.prog 11 #[.pointer (some ⟨pb, 0, none⟩), .bool x, .int .i64 now] w fun e w' => ∃ u, e = .returned (.tuple #[.agg (valC u (p.val x now)), .bool (p.s.step x).2.2.1, .int .i64 (p.s.step x).2.2.2]) ∧ (PCtx W w' pb kb b mb lb (fun k => X k ∨ u.ownBlock = some k) (p.stp x) ∧ PKept pb X w w') ∧ WordsAt w.heap.size w' u (p.val x now) := by
  have hbz := below_alloc (w := w) (Nat.le_refl _) (.cells (valC (.slice none 0 0) SV.none) 32)
  have hz0 := Blk.new w 32 (valC (.slice none 0 0) SV.none)
  have hXl := h.c.lt
  have hrl := hz0.lt
  have hlen : (p.s.step x).2.1.length ≤ 65536 := by
    have hok := h.c.ok
    have h6 := hok.w6
    cases x
    · show (FS.stepR p.s).2.1.length ≤ 65536
      have := (ok_stepR hok).ol'
      have hW : (FS.stepR p.s).1.W = p.s.W := step_W p.s false
      unfold FS.stepR at this hW ⊢
      by_cases h0 : p.s.ow = 0
      · rw [if_pos h0]; simp
      · rw [if_neg h0] at this hW ⊢
        simp only at this hW ⊢
        split
        · omega
        · simp
    · show (FS.stepW p.s).2.1.length ≤ 65536
      unfold FS.stepW
      split <;> simp
  obtain ⟨wz, hwz⟩ : ∃ wz, wz = w.alloc (.cells (valC (.slice none 0 0) SV.none) 32) := ⟨_, rfl⟩
  rw [← hwz] at hbz hz0 hrl
  have h1 := h.grow hbz
  have hX0 : newX X w wz w.heap.size := .inr ⟨Nat.le_refl _, hrl⟩
  have hXi : ∀ k, X k → newX X w wz k := fun k e => .inl e
  have HK0 := Lib.hid (show PKept pb X w wz from fun k hk _ => hbz.block k (hXl k hk))
  have HRG := Lib.hid (register_any h1)
  have HST := Lib.hid (ctx_step h1.c x)
  have hval : p.val x now = if (p.s.step x).2.2.1 = true ∧ x = false then valOf p.f (p.s.step x).2.1 now else SV.none := rfl
  have HPS := Lib.hid (show p.stp x = { p with s := (p.s.step x).1 } from rfl)
  have HW := Lib.hid (step_W p.s x)
  rw [hval]
  generalize p.stp x = p1 at *
  generalize p.s.step x = sr at *
  obtain ⟨s1, l, d, er⟩ := sr
  simp only at hlen
  obtain ⟨sv, hsv⟩ : ∃ sv, sv = if d = true ∧ x = false then valOf p.f l now else SV.none := ⟨_, rfl⟩
  simp only at ⊢
  rw [← hsv]
  have HSV := Lib.hid hsv
  clear hsv
  have HX := Lib.hid (And.intro hX0 hXi)
  have HH := Lib.hid h1
  have HX2 := Lib.hid (And.intro h.xp (show ∀ k, X k → k ≠ w.heap.size from fun k e => by have := hXl k e; omega))
  have HZ := Lib.hid hz0
  have HB := Lib.hid hbz
  have hWw := h.c.bel.size
  generalize newX X w wz = Y at *
  clear h h1 hbz hz0 hXl hval hX0 hXi
  unfold valC SV.none at hwz HZ
  have HWZ := Lib.hid hwz
  clear hwz
  go_enter Tryd.func11, Tryd.ntmps11
  go_wp2_with fail
  rw [← HWZ.out]
  refine HRG.out.mono ?_
  rintro e w1 ⟨rfl, rfl⟩
  go_wp2_with fail
  refine HST.out.mono ?_
  rintro e w3 ⟨v, rfl, ⟨hC, hK⟩, hi, hg⟩
  have HP3 := Lib.hid (HH.out.turn hC hK HW.out)
  have hz3 := HZ.out.of (hK _ HX.out.1)
  have HK3 := Lib.hid (HK0.out.trans (show PKept pb X wz w3 from fun k hk hn => HP3.out.2 k (HX.out.2 k hk) hn))
  have HIV := Lib.hid hi
  have HB3 := Lib.hid hC.bel
  have hl3 := hz3.lt
  have HZ3 := Lib.hid hz3
  have g1 := HP3.out.1.k1
  have r0 : w3.cell? ⟨w.heap.size, 0, none⟩ = some (.slice none 0 0) := (hz3.cell 0).trans rfl
  have r1 : w3.cell? ⟨w.heap.size, 1, none⟩ = some (.int .i64 0) := (hz3.cell 1).trans rfl
  have r2 : w3.cell? ⟨w.heap.size, 2, none⟩ = some (.int .i64 0) := (hz3.cell 2).trans rfl
  have r3 : w3.cell? ⟨w.heap.size, 3, none⟩ = some (.bool false) := (hz3.cell 3).trans rfl
  have r4 : w3.cell? ⟨w.heap.size, 4, none⟩ = some (.bool false) := (hz3.cell 4).trans rfl
  have f0 := hz3.fr 0
  have f1 := hz3.fr 1
  have f2 := hz3.fr 2
  have f3 := hz3.fr 3
  have f4 := hz3.fr 4
  clear hC hK hi hz3 HST HRG HH HZ HK0
  have hne : ¬ (w.heap.size = pb) := fun e => HX2.out.2 pb HX2.out.1 e.symm
  have hfin : ∀ (w4 : World) (u : Value) (c : SV) (Y' : Nat → Prop) (_ : Y' w.heap.size ∧ ∀ k, X k ∨ u.ownBlock = some k → Y' k) (_ : PCtx W w4 pb kb b mb lb Y' { p with s := s1 }) (_ : PKept pb X w w4) (_ : Blk w4 w.heap.size 32 (valC (.slice none 0 0) SV.none)) (_ : IntsIn w4 u c.l) (_ : ∀ g, u.ownBlock = some g → w.heap.size < g ∧ g < w4.heap.size),
      ∃ wf, wf = (((((w4.setCell ⟨w.heap.size, 0, none⟩ u).setCell ⟨w.heap.size, 1, none⟩ (.int .i64 c.q)).setCell ⟨w.heap.size, 2, none⟩ (.int .i64 c.t)).setCell ⟨w.heap.size, 3, none⟩ (.bool c.h)).setCell ⟨w.heap.size, 4, none⟩ (.bool c.v)) ∧
        Blk wf w.heap.size 32 (valC u c) ∧ (PCtx W wf pb kb b mb lb (fun k => X k ∨ u.ownBlock = some k) p1 ∧ PKept pb X w wf) ∧ WordsAt w.heap.size wf u c := fun w4 u c Y' hY' hp hk hb hu hg => by
    refine ⟨_, rfl, ((((hb.set 0 u).set 1 _).set 2 _).set 3 _).set 4 _, ?_⟩
    have hO : Only (fun k => k = w.heap.size) w4 (((((w4.setCell ⟨w.heap.size, 0, none⟩ u).setCell ⟨w.heap.size, 1, none⟩ (.int .i64 c.q)).setCell ⟨w.heap.size, 2, none⟩ (.int .i64 c.t)).setCell ⟨w.heap.size, 3, none⟩ (.bool c.h)).setCell ⟨w.heap.size, 4, none⟩ (.bool c.v)) :=
      onl_set (S := fun k => k = w.heap.size) (onl_set (S := fun k => k = w.heap.size) (onl_set (S := fun k => k = w.heap.size) (onl_set (S := fun k => k = w.heap.size) (onl_set (S := fun k => k = w.heap.size) (onl_refl _ w4) (p := ⟨w.heap.size, 0, none⟩) (.inl rfl) _) (p := ⟨w.heap.size, 1, none⟩) (.inl rfl) _) (p := ⟨w.heap.size, 2, none⟩) (.inl rfl) _) (p := ⟨w.heap.size, 3, none⟩) (.inl rfl) _) (p := ⟨w.heap.size, 4, none⟩) (.inl rfl) _
    have h2 := hp.onlX hO (fun k e => by rw [e]; exact hY'.1) (fun k e => by rw [e]; exact hWw) (fun e => hne e.symm)
    refine ⟨⟨by rw [HPS.out]; exact h2.less hY'.2 (.inl HX2.out.1), fun k hkx hn => ?_⟩, words_onl hu (fun g hg' e => by have := (hg g hg').1; omega) hO, fun g hg' => ⟨Nat.le_of_lt (hg g hg').1, Nat.lt_of_lt_of_le (hg g hg').2 hO.size⟩⟩
    exact (hO.block k (hp.c.lt k (hY'.2 k (.inl hkx))) (HX2.out.2 k hkx)).trans (hk k hkx hn)
  have HFIN := Lib.hid hfin
  clear hfin
  by_cases hdx : d = true ∧ x = false
  · obtain ⟨rfl, rfl⟩ := hdx
    have hs1 : sv = valOf p.f l now := by rw [HSV.out, if_pos ⟨rfl, rfl⟩]
    have HS1 := Lib.hid hs1
    have HV := Lib.hid (value_any HIV.out hlen HP3.out.1.kf now)
    clear r0 r1 r2 r3 r4 f0 f1 f2 f3 f4 hs1 HSV
    go_wp2_with fail
    refine HV.out.mono ?_
    rintro e w4 ⟨u, rfl, hwd, hb⟩
    clear HV
    generalize valOf p.f l now = vv at *
    obtain ⟨Au, cu, rfl⟩ := hwd.1.form
    obtain ⟨vl, vq, vt, vh, vv⟩ := vv
    simp only at hwd
    have hz4 := HZ3.out.below hb hl3
    have hPK : PKept pb X w w4 := HK3.out.trans (fun k hk _ => hb.block k (HP3.out.1.c.lt k (HX.out.2 k hk)))
    obtain ⟨wf, hwf, HF⟩ := HFIN.out w4 (.slice Au vl.length cu) ⟨vl, vq, vt, vh, vv⟩ _ ⟨.inl HX.out.1, fun k e => e.elim (fun e => .inl (HX.out.2 k e)) (fun e => .inr (hwd.2 k e))⟩ (HP3.out.1.grow hb) hPK hz4 hwd.1 (fun g hg => ⟨by have := (hwd.2 g hg).1; omega, (hwd.2 g hg).2⟩)
    have HFF := Lib.hid HF
    have HWF := Lib.hid hwf
    have r0 : w4.cell? ⟨w.heap.size, 0, none⟩ = some (.slice none 0 0) := (hz4.cell 0).trans rfl
    have r1 : w4.cell? ⟨w.heap.size, 1, none⟩ = some (.int .i64 0) := (hz4.cell 1).trans rfl
    have r2 : w4.cell? ⟨w.heap.size, 2, none⟩ = some (.int .i64 0) := (hz4.cell 2).trans rfl
    have r3 : w4.cell? ⟨w.heap.size, 3, none⟩ = some (.bool false) := (hz4.cell 3).trans rfl
    have r4 : w4.cell? ⟨w.heap.size, 4, none⟩ = some (.bool false) := (hz4.cell 4).trans rfl
    have f0 := hz4.fr 0
    have f1 := hz4.fr 1
    have f2 := hz4.fr 2
    have f3 := hz4.fr 3
    have f4 := hz4.fr 4
    clear HF hwf hz4 hPK hwd hb g1
    unfold valC
    go_wp2
    rw [← HWF.out]
    refine bodyPost_ret (res_c3 rfl _ rfl HFF.out.1 Tryd.underlying32 rfl vinfo) rfl ⟨_, by rw [HS1.out]; rfl, by rw [HS1.out]; exact HFF.out.2⟩
  · have hs1 : sv = SV.none := by rw [HSV.out, if_neg hdx]
    subst hs1
    obtain ⟨wf, hwf, HF⟩ := HFIN.out w3 (.slice none 0 0) SV.none Y ⟨HX.out.1, fun k e => e.elim (HX.out.2 k) (fun e => by simp [Value.ownBlock] at e)⟩ HP3.out.1 HK3.out HZ3.out (IntsIn.nil _) (fun g hg => by simp [Value.ownBlock] at hg)
    unfold SV.none at hwf
    have HFF := Lib.hid HF
    have HWF := Lib.hid hwf
    clear HF hwf
    have hcs : (d = false ∧ x = false) ∨ (d = false ∧ x = true) ∨ (d = true ∧ x = true) := by revert hdx; cases d <;> cases x <;> simp
    clear hdx
    rcases hcs with ⟨rfl, rfl⟩ | ⟨rfl, rfl⟩ | ⟨rfl, rfl⟩
    all_goals
      go_wp2
      rw [← HWF.out]
      refine bodyPost_ret (res_c3 rfl _ rfl HFF.out.1 Tryd.underlying32 rfl vinfo) rfl ⟨_, rfl, HFF.out.2⟩
end
end Go.Proofs.YtmcelldklmjlkaaDoor
